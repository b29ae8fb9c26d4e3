/- cnf: Holds. -/
import Derived.Test.YtghfelfljblkbaaSet
namespace Go.Proofs.Ytghfelfljblkbaa
open Go.RowKit Go.Sort
set_option linter.unusedVariables false

/-- The slice at A, of n Booleans, reads as bs. -/
def Bools (w : World) (A : Option Addr) (n : Nat) (bs : List Bool) : Prop :=
  bs.length = n ∧ (0 < n → ∃ b o, A = some ⟨b, o, none⟩ ∧ b < w.heap.size ∧ ∀ k, k < n → w.cell? ⟨b, o + k, none⟩ = some (.bool (bs.getD k false)))
theorem Bools.nil (w : World) (A : Option Addr) : Bools w A 0 [] := ⟨rfl, fun h => absurd h (by omega)⟩
theorem Bools.below {w w' : World} {A : Option Addr} {n : Nat} {bs : List Bool} (h : Bools w A n bs) (hb : Below w.heap.size w w') : Bools w' A n bs :=
  ⟨h.1, fun h0 => by
    obtain ⟨b, o, e, hl, hc⟩ := h.2 h0
    exact ⟨b, o, e, Nat.lt_of_lt_of_le hl hb.size, fun k hk => (hb.cell hl).trans (hc k hk)⟩⟩
/-- Where the model holds a literal's variable. -/
def atw (x : Int) : Int := IntKind.u64.wrap (vw x - 1)
theorem atw_range (x : Int) : 0 ≤ atw x ∧ atw x < 18446744073709551616 := by
  unfold atw; rw [u64_w]; omega
/-- Does a literal hold in a model? -/
def hv (bs : List Bool) (x : Int) : Bool := (decide (atw x < (bs.length : Int)) && bs.getD (atw x).toNat false) == decide (0 < x)
set_option maxRecDepth 100000 in
set_option maxHeartbeats 1000000 in
theorem holds_any (x : Int) (A : Option Addr) (n c : Nat) (bs : List Bool) (w : World) (h : Bools w A n bs) (hn : n ≤ 9223372036854775807) :
    Calls Try.prog 73 #[.int .i64 x, .slice A n c] w fun e w' => e = .returned (.bool (hv bs x)) ∧ w = w' := by
  have HV := Lib.hid (fun W => var_any x W)
  have hl := h.1
  have hr := atw_range x
  have hat : atw x = IntKind.u64.wrap (vw x - 1) := rfl
  unfold hv
  rw [hl]
  generalize vw x = v at *
  generalize atw x = a at *
  obtain ⟨N, rfl⟩ := Int.eq_ofNat_of_zero_le hr.1
  rw [Int.toNat_natCast]
  have hw : IntKind.u64.wrap (v - 1) = (N : Int) := hat.symm
  by_cases hN : N < n
  · obtain ⟨b, o, rfl, hbl, hc⟩ := h.2 (by omega)
    have k1 := hc N hN
    have hd : decide ((N : Int) < (n : Int)) = true := decide_eq_true (by omega)
    have i1 : (N : Int) < (n : Int) := by omega
    rw [hd]
    generalize bs.getD N false = bb at *
    clear hc hat h hl
    go_enter Try.func73, Try.ntmps73
    go_wp2_with (go_at_call 67; refine (HV.out _).mono ?_; rintro e w' ⟨rfl, rfl⟩)
    go_ret
    exact ⟨ret_bool (by rw [Bool.true_and]), rfl⟩
  · have hd : decide ((N : Int) < (n : Int)) = false := decide_eq_false (by omega)
    rw [hd]
    clear hat h hl
    go_enter Try.func73, Try.ntmps73
    go_wp2_with (go_at_call 67; refine (HV.out _).mono ?_; rintro e w' ⟨rfl, rfl⟩)
    go_ret
    exact ⟨ret_bool (by rw [Bool.false_and]; cases decide (0 < x) <;> rfl), rfl⟩
set_option maxRecDepth 100000 in
theorem lit_any (x : Int) (q : Nat) (A : Option Addr) (n c : Nat) (bs : List Bool) (w : World) (h : Bools w A n bs) (hn : n ≤ 9223372036854775807) (hq : w.cell? ⟨q, 0, none⟩ = some (.slice A n c)) :
    Calls Try.prog 72 #[.int .i64 x, .pointer (some ⟨q, 0, none⟩)] w fun e w' => e = .returned (.bool (hv bs x)) ∧ ∃ m, w' = w.drewN m := by
  have H := Lib.hid (holds_any x A n c bs w h hn)
  generalize hv bs x = b at *
  clear h
  go_enter Try.func72, Try.ntmps72
  go_wp2_with (go_at_call 73; refine H.out.mono ?_; rintro e w' ⟨rfl, rfl⟩)
  go_ret
  exact ⟨rfl, 0, rfl⟩
/-- Does each clause hold in a model? -/
def holdsL (bs : List Bool) (L : List (List Int)) : Bool := L.all fun c => c.any (hv bs)
theorem holdsL_step (bs : List Bool) (L : List (List Int)) (i : Nat) (hi : i < L.length) : holdsL bs (L.drop i) = (L[i].any (hv bs) && holdsL bs (L.drop (i + 1))) := by
  unfold holdsL
  rw [List.drop_eq_getElem_cons hi, List.all_cons]
set_option maxRecDepth 100000 in
set_option maxHeartbeats 1000000 in
theorem Holds_any (p cap nv : Nat) (A : Option Addr) (L : List (List Int)) (B : Option Addr) (n c : Nat) (bs : List Bool) (w : World) (h : SetAt w p A cap nv L) (hL : ∀ r ∈ L, r.length ≤ 1048576) (hb : Bools w B n bs) (hn : n ≤ 9223372036854775807) :
    Calls Try.prog 27 #[.pointer (some ⟨p, 0, none⟩), .slice B n c] w fun e w' => e = .returned (.bool (holdsL bs L)) ∧ Below w.heap.size w w' := by
  obtain ⟨W1, hW1⟩ : ∃ W1, W1 = w.alloc (.cells #[.slice B n c] 29) := ⟨_, rfl⟩
  have hb1 : Below w.heap.size w W1 := by rw [hW1]; exact (Below.refl _ _).alloc (Nat.le_refl _) _
  have hkq : W1.cell? ⟨w.heap.size, 0, none⟩ = some (.slice B n c) := by rw [hW1]; exact (Blk.new _ _ _).cell 0
  have hs1 : W1.heap.size = w.heap.size + 1 := by rw [hW1]; simp
  have eg : ∀ args w, (callFunc 72 args).run Try.prog w = .ok (.enter 72 args) w := enters_of Try.func72 (by kernel_rfl) rfl
  have hp : ∀ V, Below W1.heap.size W1 V → PredAt Try.prog 72 #[.pointer (some ⟨w.heap.size, 0, none⟩)] (Value.int .i64) (hv bs) V := fun V hV W x hW => lit_any x w.heap.size B n c bs W ((hb.below hb1).below (hV.trans (hW.mono hV.size))) hn (((hV.trans (hW.mono hV.size)).cell (by show w.heap.size < W1.heap.size; omega)).trans hkq)
  have HANY : Hid (∀ V, Below W1.heap.size W1 V → ∀ (C : Option Addr) (m d : Nat) (zs : List Int), Lits V C m zs → m ≤ 1048576 → Calls Try.prog 71 #[.slice C m d, .func (.func 72) #[] #[.pointer (some ⟨w.heap.size, 0, none⟩)]] V fun e w' => e = .returned (.bool (zs.any (hv bs))) ∧ ∃ q, w' = V.drewN q) := Lib.hid (fun V hV C m d zs hz hm => any_any _ _ _ C m d zs V hz hm eg (hp V hV))
  have HS1 := Lib.hid (h.below hb1)
  have HB1 := Lib.hid hb1
  have HLL := Lib.hid hL
  have k1 : W1.cell? ⟨p, 1, none⟩ = some (.slice A L.length cap) := (h.below hb1).blk.cell 1
  have HW := Lib.hid hs1
  have hlen := h.len
  clear h hb hp eg hkq hb1 hL hs1
  subst hW1
  go_enter Try.func27, Try.ntmps27
  go_wp2_with fail
  go_loopw [14] (fun t wr => ∃ i : Nat, t = .int .i64 (i : Int) ∧ i ≤ L.length ∧ Hid (holdsL bs L = holdsL bs (L.drop i)) ∧ Hid (Below (w.alloc (.cells #[.slice B n c] 29)).heap.size (w.alloc (.cells #[.slice B n c] 29)) wr)) (fun t _ => L.length - (match t with | .int _ x => x.toNat | _ => 0))
  case atStart => exact ⟨0, rfl, Nat.zero_le _, Lib.hid rfl, Lib.hid (Below.refl _ _)⟩
  case round =>
    obtain ⟨i, rfl, hi, HI, HB⟩ := hrel
    by_cases hlt : i < L.length
    · have HSR := Lib.hid (HS1.out.below HB.out)
      obtain ⟨xs, hox, hix⟩ := HSR.out.row
      obtain ⟨Aj, cj, hxj, hlj, _⟩ := hix.2 i hlt
      obtain ⟨r, hr⟩ : ∃ r, r = L[i] := ⟨_, rfl⟩
      have hrl : r.length ≤ 1048576 := by rw [hr]; exact HLL.out _ (List.getElem_mem hlt)
      rw [← hr] at hxj hlj
      have hA : ∃ g, A = some ⟨g, 0, none⟩ ∧ wr.cell? ⟨g, i, none⟩ = some (.slice Aj r.length cj) := by
        rcases hox.2 with ⟨h0, h00⟩ | ⟨g, cap', cur, h0, _⟩
        · omega
        · cases h0
          exact ⟨g, rfl, by rw [hox.cellAt i (by omega)]; exact hxj⟩
      obtain ⟨g, hA, kg⟩ := hA
      subst hA
      have HC := Lib.hid (HANY.out wr HB.out Aj r.length cj r hlj hrl)
      have HST : Hid (holdsL bs L = (r.any (hv bs) && holdsL bs (L.drop (i + 1)))) := Lib.hid (by rw [HI.out, holdsL_step bs L i hlt, hr])
      have i1 : (i : Int) < (L.length : Int) := by omega
      obtain ⟨bb, hbb⟩ : ∃ bb, bb = r.any (hv bs) := ⟨_, rfl⟩
      rw [← hbb] at HC HST
      clear hox hix hxj hlj hr hbb HSR
      cases bb with
      | true =>
        go_wp2_with (go_at_call 71; refine HC.out.mono ?_; rintro e w2 ⟨rfl, q, rfl⟩)
        refine ⟨⟨i + 1, by go_num, by omega, Lib.hid (by rw [HST.out]; rfl), Lib.hid (HB.out.trans ⟨rfl, rfl, rfl, Nat.le_refl _, fun _ _ => rfl⟩)⟩, ?_⟩
        show L.length - ((i : Int) + 1).toNat < L.length - (i : Int).toNat
        omega
      | false =>
        go_wp2_with (go_at_call 71; refine HC.out.mono ?_; rintro e w2 ⟨rfl, q, rfl⟩)
        go_ret
        refine ⟨by rw [HST.out]; rfl, HB1.out.trans ((HB.out.mono HB1.out.size).trans ⟨rfl, rfl, rfl, Nat.le_refl _, fun _ _ => rfl⟩)⟩
    · have hil : i = L.length := by omega
      have HEQ : Hid (holdsL bs L = true) := Lib.hid (by rw [HI.out, hil, List.drop_of_length_le (Nat.le_refl _)]; rfl)
      clear hil
      go_wp2_with fail
      go_ret
      exact ⟨by rw [HEQ.out]; rfl, HB1.out.trans (HB.out.mono HB1.out.size)⟩
end Go.Proofs.Ytghfelfljblkbaa
