/- prop: a trail in memory; of, take, forced. -/
import Derived.Test.YtghfelfljblkbaaPr
import Derived.Test.YtghfelfljblkbaaRSet
import Derived.Deep.RegionLaw
import Derived.StillTailTactics
namespace Go.Proofs.Ytghfelfljblkbaa
open Go.RowKit Go.Sort
set_option linter.unusedVariables false

theorem int_row : (Try.prog.info? 3).map (fun i => (i.zero, i.size, i.bytes)) = some (some (.int .i64 0), 1, 8) := by kernel_rfl
/-- Clauses that lie at A, in blocks of K. -/
def ClsK (w : World) (K : Nat → Prop) (A : Option Addr) (L : List (List Int)) : Prop :=
  (∀ i, K i → i < w.heap.size) ∧ (0 < L.length → ∃ b, A = some ⟨b, 0, none⟩ ∧ K b ∧ ∀ j (h : j < L.length), ∃ Aj cj, w.cell? ⟨b, j, none⟩ = some (.slice Aj (L[j]).length cj) ∧ Lits w Aj (L[j]).length L[j] ∧ ∀ g o, Aj = some ⟨g, o, none⟩ → K g)
theorem ClsK.upd {T K : Nat → Prop} {w w' : World} {A : Option Addr} {L : List (List Int)} (h : ClsK w K A L) (hu : Upd T w w') (hT : ∀ i, K i → ¬ T i) : ClsK w' K A L := by
  refine ⟨fun i hi => Nat.lt_of_lt_of_le (h.1 i hi) hu.size, fun h0 => ?_⟩
  obtain ⟨b, e, hb, hc⟩ := h.2 h0
  refine ⟨b, e, hb, fun j hj => ?_⟩
  obtain ⟨Aj, cj, h1, h2, h3⟩ := hc j hj
  exact ⟨Aj, cj, (hu.cell (p := ⟨b, j, none⟩) (h.1 b hb) (hT b hb)).trans h1, h2.upd hu (fun g o e => hT g (h3 g o e)), h3⟩
theorem ClsK.below {K : Nat → Prop} {w w' : World} {A : Option Addr} {L : List (List Int)} (h : ClsK w K A L) (hb : Below w.heap.size w w') : ClsK w' K A L :=
  h.upd (Upd.of_below hb (T := fun k => w.heap.size ≤ k) (fun _ _ h => h)) (fun i hi hT => by have := h.1 i hi; omega)
/-- n + 1 numbers. -/
def VA (n : Nat) (f : Nat → Int) : Array Value := ((List.range (n + 1)).map fun v => Value.int .i64 (f v)).toArray
theorem VA.size (n : Nat) (f : Nat → Int) : (VA n f).size = n + 1 := by simp [VA]
theorem VA.get {n v : Nat} {f : Nat → Int} (h : v ≤ n) : (VA n f)[v]? = some (.int .i64 (f v)) := by
  have h9 : v < n + 1 := by omega
  simp [VA, h9]
theorem VA.set {n v : Nat} {f g : Nat → Int} (h : ∀ u, u ≤ n → g u = if u = v then g v else f u) : (VA n f).setIfInBounds v (.int .i64 (g v)) = VA n g := by
  refine Array.ext_getElem? fun i => ?_
  rw [Array.getElem?_setIfInBounds, VA.size]
  rcases Nat.lt_or_ge i (n + 1) with hi | hi
  · rw [VA.get (by omega), VA.get (by omega)]
    by_cases e : v = i
    · subst e; rw [if_pos rfl, if_pos hi]
    · rw [if_neg e, h i (by omega), if_neg (fun h => e h.symm)]
  · rw [Array.getElem?_eq_none (by rw [VA.size]; exact hi), Array.getElem?_eq_none (by rw [VA.size]; exact hi)]
    by_cases e : v = i
    · subst e; rw [if_pos rfl, if_neg (by omega)]
    · rw [if_neg e]
theorem VA.congr {n : Nat} {f g : Nat → Int} (h : ∀ u, u ≤ n → f u = g u) : VA n f = VA n g := by
  refine Array.ext_getElem? fun i => ?_
  rcases Nat.lt_or_ge i (n + 1) with hi | hi
  · rw [VA.get (by omega), VA.get (by omega), h i (by omega)]
  · rw [Array.getElem?_eq_none (by rw [VA.size]; exact hi), Array.getElem?_eq_none (by rw [VA.size]; exact hi)]
/-- Each variable's value. -/
def tv (T : List Int) (v : Nat) : Int := Pr.ofT T (v : Int)
/-- What a trail is in memory. -/
structure TrAt (w : World) (p gv : Nat) (Al At Am : Option Addr) (cl ct cm n : Nat) (K : Nat → Prop) (L : List (List Int)) (T : List Int) (M : List Nat) : Prop where
  blk : Blk w p 87 #[.slice Al L.length cl, .slice (some ⟨gv, 0, none⟩) (n + 1) (n + 1), .slice At T.length ct, .slice Am M.length cm]
  cls : ClsK w K Al L
  val : Blk w gv 3 (VA n (tv T))
  lits : w.ownsRow 0 37 1 (.slice At T.length ct) T.length (T.map (Value.int .i64))
  lev : w.ownsRow 0 3 1 (.slice Am M.length cm) M.length (M.map fun (k : Nat) => Value.int .i64 (k : Int))
  un : Un n T
  cl : Pr.Cl n L
  n : n ≤ 200
  len : L.length ≤ 5000
  sh : ∀ c ∈ L, c.length ≤ 1048576
  ne : (Value.slice Am 0 0).ownBlock ≠ some gv
  k : ∀ i, K i → i ≠ p ∧ i ≠ gv ∧ (Value.slice At 0 0).ownBlock ≠ some i ∧ (Value.slice Am 0 0).ownBlock ≠ some i
/-- The blocks that a trail turns. -/
def tF (p gv : Nat) (At Am : Option Addr) : Nat → Prop := fun i => i = p ∨ i = gv ∨ (Value.slice At 0 0).ownBlock = some i ∨ (Value.slice Am 0 0).ownBlock = some i
section
variable {w w' : World} {p gv cl ct cm n : Nat} {Al At Am : Option Addr} {K : Nat → Prop} {L : List (List Int)} {T : List Int} {M : List Nat}
theorem TrAt.lt (h : TrAt w p gv Al At Am cl ct cm n K L T M) : ∀ i, tF p gv At Am i → i < w.heap.size := by
  rintro i (rfl | rfl | hi | hi)
  · exact h.blk.lt
  · exact h.val.lt
  · exact (h.lits.lt i (by rw [← hi]; exact ownB)).2
  · exact (h.lev.lt i (by rw [← hi]; exact ownB)).2
theorem TrAt.klt (h : TrAt w p gv Al At Am cl ct cm n K L T M) : ∀ i, K i → i < w.heap.size := h.cls.1
theorem TrAt.upd {S : Nat → Prop} (h : TrAt w p gv Al At Am cl ct cm n K L T M) (hu : Upd S w w') (h1 : ∀ i, tF p gv At Am i → ¬ S i) (h2 : ∀ i, K i → ¬ S i) : TrAt w' p gv Al At Am cl ct cm n K L T M :=
  ⟨h.blk.upd hu (h1 p (.inl rfl)), h.cls.upd hu h2, h.val.upd hu (h1 gv (.inr (.inl rfl))), own_upd h.lits hu (fun i hi => h1 i (.inr (.inr (.inl (by rw [← hi]; exact ownB))))), own_upd h.lev hu (fun i hi => h1 i (.inr (.inr (.inr (by rw [← hi]; exact ownB))))), h.un, h.cl, h.n, h.len, h.sh, h.ne, h.k⟩
theorem TrAt.below (h : TrAt w p gv Al At Am cl ct cm n K L T M) (hb : Below w.heap.size w w') : TrAt w' p gv Al At Am cl ct cm n K L T M :=
  h.upd (Upd.of_below hb (T := fun k => w.heap.size ≤ k) (fun _ _ h => h)) (fun i hi hT => by have := h.lt i hi; omega) (fun i hi hT => by have := h.klt i hi; omega)
theorem TrAt.ok (h : TrAt w p gv Al At Am cl ct cm n K L T M) : ∀ z ∈ T, Ok z := fun z hz => by
  have := h.un.ok h.n z hz
  exact ⟨by omega, by omega⟩
theorem TrAt.tlen (h : TrAt w p gv Al At Am cl ct cm n K L T M) : T.length ≤ 200 := Nat.le_trans (Pr.un_len h.un) h.n
theorem TrAt.vcell (h : TrAt w p gv Al At Am cl ct cm n K L T M) {v : Nat} (hv : v ≤ n) : w.cell? ⟨gv, v, none⟩ = some (.int .i64 (tv T v)) := by rw [h.val.cell]; exact VA.get hv
end
theorem tv_pos {T : List Int} {x : Int} (h : 0 ≤ x) : tv T x.toNat = Pr.ofT T x := by unfold tv; rw [Int.toNat_of_nonneg h]
theorem tv_neg {n : Nat} {T : List Int} {x : Int} (hu : Un n T) (h : x < 0) : -(tv T (-x).toNat) = Pr.ofT T x := by
  unfold tv
  rw [Int.toNat_of_nonneg (by omega), Pr.ofT_neg hu]; omega
theorem ofT_bd (T : List Int) (x : Int) : -1 ≤ Pr.ofT T x ∧ Pr.ofT T x ≤ 1 := by
  rcases Pr.ofT_cases T x with h | h | h <;> omega
set_option maxRecDepth 100000 in
theorem of_any (p gv cl ct cm n : Nat) (Al At Am : Option Addr) (K : Nat → Prop) (L : List (List Int)) (T : List Int) (M : List Nat) (x : Int) (w : World) (h : TrAt w p gv Al At Am cl ct cm n K L T M) (hx : Cf.va x ≤ n) :
    Calls Try.prog 79 #[.pointer (some ⟨p, 0, none⟩), .int .i64 x] w fun e w' => e = .returned (.int .i64 (Pr.ofT T x)) ∧ w = w' := by
  have k1 : w.cell? ⟨p, 1, none⟩ = some (.slice (some ⟨gv, 0, none⟩) (n + 1) (n + 1)) := h.blk.cell 1
  have hn := h.n
  have hxn : -(n : Int) ≤ x ∧ x ≤ (n : Int) := by unfold Cf.va at hx; omega
  obtain ⟨x1, x2⟩ := hxn
  by_cases h0 : x < 0
  · obtain ⟨v, hv⟩ : ∃ v : Nat, v = (-x).toNat := ⟨_, rfl⟩
    have kv := h.vcell (v := v) (by omega)
    have HE := Lib.hid (tv_neg h.un h0)
    rw [← hv] at HE
    have hb := ofT_bd T (v : Int)
    have hb1 : -1 ≤ tv T v := hb.1
    have hb2 : tv T v ≤ 1 := hb.2
    obtain ⟨y, hy⟩ : ∃ y, y = tv T v := ⟨_, rfl⟩
    rw [← hy] at kv HE hb1 hb2
    have hvx : (-x).toNat = v := hv.symm
    have i1 : -x < (n : Int) + 1 := by omega
    have i2 : 0 ≤ -x := by omega
    clear h hx hb hv hy
    go_enter Try.func79, Try.ntmps79
    go_wp2_with fail
    go_ret
    exact ⟨ret_int HE.out, rfl⟩
  · obtain ⟨v, hv⟩ : ∃ v : Nat, v = x.toNat := ⟨_, rfl⟩
    have kv := h.vcell (v := v) (by omega)
    have HE := Lib.hid (tv_pos (T := T) (x := x) (by omega))
    rw [← hv] at HE
    obtain ⟨y, hy⟩ : ∃ y, y = tv T v := ⟨_, rfl⟩
    rw [← hy] at kv HE
    have hvx : x.toNat = v := hv.symm
    have i1 : x < (n : Int) + 1 := by omega
    have i2 : 0 ≤ x := by omega
    clear h hx hv hy
    go_enter Try.func79, Try.ntmps79
    go_wp2_with fail
    go_ret
    exact ⟨ret_int HE.out, rfl⟩
theorem frc_step (T c : List Int) (j : Nat) (hj : j < c.length) (out : Int) : Pr.frc T (c.drop j) out = if 0 < Pr.ofT T (c.getD j 0) ∨ (Pr.ofT T (c.getD j 0) = 0 ∧ out ≠ 0) then 0 else if Pr.ofT T (c.getD j 0) = 0 then Pr.frc T (c.drop (j + 1)) (c.getD j 0) else Pr.frc T (c.drop (j + 1)) out := by
  rw [List.drop_eq_getElem_cons hj, List.getD_eq_getElem?_getD, List.getElem?_eq_getElem hj]; rfl
set_option maxRecDepth 100000 in
set_option maxHeartbeats 1000000 in
theorem forced_any (p gv cl ct cm n : Nat) (Al At Am : Option Addr) (K : Nat → Prop) (L : List (List Int)) (T : List Int) (M : List Nat) (A : Option Addr) (m cc : Nat) (c : List Int) (w : World) (h : TrAt w p gv Al At Am cl ct cm n K L T M) (hc : Lits w A m c) (hm : m ≤ 1048576) (hcn : ∀ y ∈ c, Cf.va y ≤ n) :
    Calls Try.prog 102 #[.pointer (some ⟨p, 0, none⟩), .slice A m cc] w fun e w' => e = .returned (.int .i64 (Pr.forced T c)) ∧ w = w' := by
  have HOF := Lib.hid (fun x hx => of_any p gv cl ct cm n Al At Am K L T M x w h hx)
  have HC := Lib.hid hc
  have HCN := Lib.hid hcn
  have HL := Lib.hid hc.1
  clear h hc hcn
  go_enter Try.func102, Try.ntmps102
  go_wp2_with fail
  go_loopw [5, 11] (fun o t wr => ∃ (j : Nat) (out : Int), o = .int .i64 out ∧ t = .int .i64 (j : Int) ∧ j ≤ m ∧ Hid (Pr.frc T (c.drop j) out = Pr.forced T c) ∧ wr = w) (fun _ t _ => m - (match t with | .int _ x => x.toNat | _ => 0))
  case atStart => exact ⟨0, 0, rfl, rfl, Nat.zero_le _, Lib.hid rfl, rfl⟩
  case round =>
    obtain ⟨j, out, rfl, rfl, hj, HR, rfl⟩ := hrel
    by_cases hlt : j < m
    · obtain ⟨b, o, rfl, _, hcell⟩ := HC.out.2.2 (by omega)
      obtain ⟨x, hx⟩ : ∃ x, x = c.getD j 0 := ⟨_, rfl⟩
      have kx := hcell j hlt
      rw [← hx] at kx
      have hxv : Cf.va x ≤ n := HCN.out x (by
        rw [hx, List.getD_eq_getElem?_getD, List.getElem?_eq_getElem (by have := HL.out; omega)]
        exact List.getElem_mem _)
      have HX := Lib.hid (HOF.out x hxv)
      have HST := frc_step T c j (by have := HL.out; omega) out
      rw [HR.out, ← hx] at HST
      have hbd := ofT_bd T x
      obtain ⟨v, hv⟩ : ∃ v, v = Pr.ofT T x := ⟨_, rfl⟩
      rw [← hv] at HX HST hbd
      have HS := Lib.hid HST
      have i1 : (j : Int) < (m : Int) := by omega
      clear hx hxv hcell HST HR hv
      rcases (show v = -1 ∨ v = 0 ∨ v = 1 by omega) with rfl | rfl | rfl
      · have HS2 : Hid (Pr.frc T (c.drop (j + 1)) out = Pr.forced T c) := Lib.hid (by have := HS.out; rw [if_neg (by omega), if_neg (by omega)] at this; exact this.symm)
        clear hbd HS
        go_wp2_with (go_at_call 79; refine HX.out.mono ?_; rintro e w2 ⟨rfl, rfl⟩)
        refine ⟨⟨j + 1, out, rfl, by go_num, by omega, HS2, trivial⟩, ?_⟩
        show m - ((j : Int) + 1).toNat < m - (j : Int).toNat
        omega
      · by_cases ho : out = 0
        · have HS2 : Hid (Pr.frc T (c.drop (j + 1)) x = Pr.forced T c) := Lib.hid (by have := HS.out; rw [if_neg (by omega), if_pos rfl] at this; exact this.symm)
          have ho2 : (out != 0) = false := by simp [ho]
          clear hbd HS ho
          go_wp2_with (go_at_call 79; refine HX.out.mono ?_; rintro e w2 ⟨rfl, rfl⟩)
          refine ⟨⟨j + 1, x, rfl, by go_num, by omega, HS2, trivial⟩, ?_⟩
          show m - ((j : Int) + 1).toNat < m - (j : Int).toNat
          omega
        · have HS2 : Hid (Pr.forced T c = 0) := Lib.hid (by have := HS.out; rw [if_pos (.inr ⟨rfl, ho⟩)] at this; exact this)
          have ho2 : (out != 0) = true := by simp [ho]
          clear hbd HS ho
          go_wp2_with (go_at_call 79; refine HX.out.mono ?_; rintro e w2 ⟨rfl, rfl⟩)
          go_ret
          exact ⟨ret_int HS2.out.symm, rfl⟩
      · have HS2 : Hid (Pr.forced T c = 0) := Lib.hid (by have := HS.out; rw [if_pos (.inl (by omega))] at this; exact this)
        clear hbd HS
        go_wp2_with (go_at_call 79; refine HX.out.mono ?_; rintro e w2 ⟨rfl, rfl⟩)
        go_ret
        exact ⟨ret_int HS2.out.symm, rfl⟩
    · have hjm : (j : Int) = (m : Int) := by omega
      have HE : Hid (out = Pr.forced T c) := Lib.hid (by rw [← HR.out, List.drop_of_length_le (by have := HL.out; omega)]; rfl)
      clear HR
      go_wp2_with fail
      go_ret
      exact ⟨ret_int HE.out, rfl⟩
theorem int_ne {w : World} {g base n : Nat} {v : Value} {xs : List Value} {C : Array Value} (ho : w.ownsRow base 37 1 v n xs) (hb : Blk w g 3 C) : ¬ v.ownBlock = some g := own_blk_ne ho hb (by decide)
theorem tr_ne {w : World} {g base n : Nat} {v : Value} {xs : List Value} {C : Array Value} {e : TypeId} (ho : w.ownsRow base e 1 v n xs) (hb : Blk w g 87 C) (he : e ≠ 87) : ¬ v.ownBlock = some g := own_blk_ne ho hb he
theorem own_two {w : World} {base base' n n' : Nat} {v v' : Value} {xs xs' : List Value} {e e' : TypeId} (ho : w.ownsRow base e 1 v n xs) (ho' : w.ownsRow base' e' 1 v' n' xs') (he : e ≠ e') : ∀ i, v.ownBlock = some i → ¬ v'.ownBlock = some i := by
  intro i hi hi'
  rcases ho.2 with ⟨rfl, _⟩ | ⟨g, cap, cur, rfl, _, hg, _⟩
  · cases hi
  rcases ho'.2 with ⟨rfl, _⟩ | ⟨g', cap', cur', rfl, _, hg', _⟩
  · cases hi'
  have e1 : g = i := by simpa [Value.ownBlock] using hi
  have e2 : g' = i := by simpa [Value.ownBlock] using hi'
  subst e1
  subst e2
  rw [hg] at hg'
  injection hg' with h8
  injection h8 with _ ht
  exact he ht
/-- The sign of a literal. -/
def sgn (x : Int) : Int := if x < 0 then -1 else 1
theorem tv_take {n : Nat} {T : List Int} {x : Int} (hu : Un n T) (hx : 1 ≤ Cf.va x ∧ Cf.va x ≤ n) (h0 : Pr.ofT T x = 0) : (VA n (tv T)).setIfInBounds (Cf.va x) (.int .i64 (sgn x)) = VA n (tv (T ++ [x])) := by
  have hun := Pr.un_snoc hu hx h0
  have e : tv (T ++ [x]) (Cf.va x) = sgn x := by
    unfold sgn
    have h1 := Pr.ofT_snoc T x
    by_cases h : x < 0
    · rw [if_pos h]
      have := tv_neg hun h
      rw [h1] at this
      rw [show Cf.va x = (-x).toNat by unfold Cf.va; omega]
      omega
    · rw [if_neg h]
      have := tv_pos (T := T ++ [x]) (x := x) (by omega)
      rw [h1] at this
      rw [show Cf.va x = x.toNat by unfold Cf.va; omega]
      exact this
  have := VA.set (n := n) (v := Cf.va x) (f := tv T) (g := tv (T ++ [x])) (fun u hun' => by
    by_cases h : u = Cf.va x
    · rw [if_pos h, h]
    · rw [if_neg h]
      unfold tv
      exact Pr.ofT_snoc_ne (fun e => h (by rw [← e]; unfold Cf.va; omega)) (fun e => h (by unfold Cf.va; omega)))
  rw [e] at this
  exact this
set_option maxRecDepth 100000 in
set_option maxHeartbeats 1000000 in
theorem take_any (p gv cl ct cm n : Nat) (Al At Am : Option Addr) (K : Nat → Prop) (L : List (List Int)) (T : List Int) (M : List Nat) (x : Int) (w : World) (h : TrAt w p gv Al At Am cl ct cm n K L T M) (hx : 1 ≤ Cf.va x ∧ Cf.va x ≤ n) (h0 : Pr.ofT T x = 0) :
    Calls Try.prog 80 #[.pointer (some ⟨p, 0, none⟩), .int .i64 x] w fun e w' => e = .returned (.tuple #[]) ∧ Upd (tF p gv At Am) w w' ∧ ∃ At' ct', TrAt w' p gv Al At' Am cl ct' cm n K L (T ++ [x]) M ∧ ∀ i, (Value.slice At' 0 0).ownBlock = some i → (Value.slice At 0 0).ownBlock = some i ∨ w.heap.size ≤ i := by
  obtain ⟨i0, hi0, hz0, hz1, hz2⟩ := info_parts lit_row
  have HT := Lib.hid h
  have HV := Lib.hid (tv_take h.un hx h0)
  have HUN := Lib.hid (Pr.un_snoc h.un hx h0)
  have hn := h.n
  have hxn : -(n : Int) ≤ x ∧ x ≤ (n : Int) := by have := hx.2; unfold Cf.va at this; omega
  obtain ⟨x1, x2⟩ := hxn
  obtain ⟨t, ht⟩ : ∃ t, t = T.length := ⟨_, rfl⟩
  have ht2 : t ≤ 200 := by rw [ht]; exact h.tlen
  have HTL := Lib.hid ht
  have k2 : w.cell? ⟨p, 2, none⟩ = some (.slice At t ct) := by rw [ht]; exact h.blk.cell 2
  have HOL : Hid (w.ownsRow 0 37 1 (.slice At t ct) t (T.map (Value.int .i64))) := Lib.hid (by rw [ht]; exact h.lits)
  have hlp := h.blk.lt
  have hxv := hx.1
  have HF : Hid (∀ w5 A5 c5, w5.ownsRow 0 37 1 (.slice A5 (t + 1) c5) (t + 1) (T.map (Value.int .i64) ++ [.int .i64 x]) → Upd (fun k => (Value.slice At 0 0).ownBlock = some k) w w5 → (∀ i, (Value.slice A5 0 0).ownBlock = some i → (Value.slice At 0 0).ownBlock = some i ∨ w.heap.size ≤ i) →
      ∀ w6, w6 = (w5.setCell ⟨p, 2, none⟩ (.slice A5 (t + 1) c5)).setCell ⟨gv, Cf.va x, none⟩ (.int .i64 (sgn x)) →
      Upd (tF p gv At Am) w w6 ∧ TrAt w6 p gv Al A5 Am cl c5 cm n K L (T ++ [x]) M) := Lib.hid (by
    intro w5 A5 c5 ho5 hu5 hA5 w6 hw6
    have hpv : p ≠ gv := Blk.ne_ h.blk h.val (by decide)
    have hb5 : Blk w5 p 87 _ := h.blk.upd hu5 (fun e => tr_ne h.lits h.blk (by decide) (by rw [← e]; exact ownB))
    have hv5 : Blk w5 gv 3 _ := h.val.upd hu5 (fun e => int_ne h.lits h.val (by rw [← e]; exact ownB))
    have hl5 : w5.ownsRow 0 3 1 (.slice Am M.length cm) M.length (M.map fun (k : Nat) => Value.int .i64 (k : Int)) := own_upd h.lev hu5 (fun i hi e => own_two h.lits h.lev (by decide) i (by rw [← e]; exact ownB) hi)
    have hu6 : Upd (fun i => i = p ∨ i = gv) w5 w6 := by
      rw [hw6]
      exact ((Upd.refl _ w5).setCell (p := ⟨p, 2, none⟩) (.inl (.inl rfl)) _).setCell (p := ⟨gv, Cf.va x, none⟩) (.inl (.inr rfl)) _
    have htl : (T ++ [x]).length = t + 1 := by rw [List.length_append, ht]; rfl
    refine ⟨(hu5.mono (fun i _ hi => .inr (.inr (.inl hi)))).trans (hu6.mono (fun i _ hi => by
      rcases hi with hi | hi
      · exact .inl hi
      · exact .inr (.inl hi))), ?_, ?_, ?_, ?_, ?_, HUN.out, h.cl, h.n, h.len, h.sh, h.ne, ?_⟩
    · rw [hw6, htl]
      exact ((hb5.set_ 2 (.slice A5 (t + 1) c5)).far (p := ⟨gv, Cf.va x, none⟩) hpv _).cast (by simp)
    · exact (h.cls.upd hu5 (fun i hi e => (h.k i hi).2.2.1 e)).upd hu6 (fun i hi e => by
        have := h.k i hi
        rcases e with e | e
        · exact this.1 e
        · exact this.2.1 e)
    · rw [hw6, ← HV.out]
      exact (hv5.far (p := ⟨p, 2, none⟩) (fun e => hpv e.symm) _).set_ _ _
    · rw [htl, List.map_append]
      exact own_upd ho5 hu6 (fun i hi e => by
        rcases e with rfl | rfl
        · exact tr_ne ho5 hb5 (by decide) hi
        · exact int_ne ho5 hv5 hi)
    · exact own_upd hl5 hu6 (fun i hi e => by
        rcases e with rfl | rfl
        · exact tr_ne hl5 hb5 (by decide) hi
        · exact h.ne (by rw [← hi]; exact ownB))
    · intro i hi
      have h9 := h.k i hi
      refine ⟨h9.1, h9.2.1, fun e => ?_, h9.2.2.2⟩
      rcases hA5 i e with h8 | h8
      · exact h9.2.2.1 h8
      · have := h.klt i hi; omega)
  have kv : w.cell? ⟨gv, Cf.va x, none⟩ = some (.int .i64 (tv T (Cf.va x))) := h.vcell hx.2
  have HB : Hid (Blk w p 87 #[.slice Al L.length cl, .slice (some ⟨gv, 0, none⟩) (n + 1) (n + 1), .slice At t ct, .slice Am M.length cm]) := Lib.hid (by rw [ht]; exact h.blk)
  have HNE : Hid (¬ (Value.slice At 0 0).ownBlock = some p ∧ ¬ (Value.slice At 0 0).ownBlock = some gv) := Lib.hid ⟨fun e => tr_ne h.lits h.blk (by decide) (by rw [← e]; exact ownB), fun e => int_ne h.lits h.val (by rw [← e]; exact ownB)⟩
  have HVB := Lib.hid h.val
  have hpv : p ≠ gv := Blk.ne_ h.blk h.val (by decide)
  have HPV := Lib.hid hpv
  obtain ⟨v, hv⟩ : ∃ v, v = Cf.va x := ⟨_, rfl⟩
  rw [← hv] at kv HF hxv
  have HVV := Lib.hid hv
  clear h hx h0 ht hpv hv
  by_cases hneg : x < 0
  · have hvx : (-x).toNat = v := by rw [HVV.out]; unfold Cf.va; omega
    have HSG : Hid (sgn x = -1) := Lib.hid (by unfold sgn; rw [if_pos hneg])
    have i1 : -x < (n : Int) + 1 := by omega
    have i2 : 0 ≤ -x := by omega
    go_enter Try.func80, Try.ntmps80
    go_wp2_with (at_builtin; refine wpList_append_any _ rfl (.tmp 8) (.tmp 10) 22 rfl 0 37 i0 _ 1 8 Try.underlying22 hi0 hz0 hz1 hz2 rfl (by decide) _ t _ rfl (HOL.out.alloc _) (w.heap.size + 1) (some ⟨w.heap.size, 0, none⟩) 1 1 [.int .i64 x] rfl (reads_one (Blk.new _ _ _) (by omega)) (ints_one [x]) (by unfold maxLen; omega) (by omega) (Nat.zero_le _) ?_; intro v5 w5 hown5 hg5 hat5; have HOW5 := Lib.hid hown5; have HU5 : Hid (Upd (fun k => (Value.slice At 0 0).ownBlock = some k) w w5) := Lib.hid (((Upd.refl _ w).alloc _).grown hg5 (fun j hj => .inl (by rw [← hj]; exact ownB))); have HB5 := Lib.hid (HB.out.upd HU5.out HNE.out.1); have HVB5 := Lib.hid (HVB.out.upd HU5.out HNE.out.2); have f5 : w5.frozen? ⟨p, 2, none⟩ = false := HB5.out.frozen 2; have k5 : ∃ u, w5.cell? ⟨p, 2, none⟩ = some u := ⟨_, HB5.out.cell 2⟩; obtain ⟨u5, k5⟩ := k5; have kp1 : ∀ y, (w5.setCell ⟨p, 2, none⟩ y).cell? ⟨p, 1, none⟩ = some (.slice (some ⟨gv, 0, none⟩) (n + 1) (n + 1)) := fun y => (HB5.out.set_ 2 y).cell 1; have fv5 : ∀ y, (w5.setCell ⟨p, 2, none⟩ y).frozen? ⟨gv, v, none⟩ = false := fun y => (HVB5.out.far (p := ⟨p, 2, none⟩) (fun e => HPV.out e.symm) y).frozen v; have kv5 : ∀ y, ∃ u, (w5.setCell ⟨p, 2, none⟩ y).cell? ⟨gv, v, none⟩ = some u := fun y => ⟨_, ((HVB5.out.far (p := ⟨p, 2, none⟩) (fun e => HPV.out e.symm) y).cell v).trans (VA.get (by omega))⟩; have HO5 : Hid (∀ j, v5.ownBlock = some j → (Value.slice At 0 0).ownBlock = some j ∨ w.heap.size ≤ j) := Lib.hid (fun j hj => own_or At t ct v5.ownBlock w.heap.size j hj (by rcases hat5 with h | h; (· exact .inl h); (· exact .inr (h.trans (by rw [World.size_alloc]))))); obtain ⟨A5, c5, rfl⟩ := ownL_shape hown5; obtain ⟨u6, kv5⟩ := kv5 (.slice A5 (t + 1) c5); clear hown5 hg5 hat5 k2)
    go_end0
    obtain ⟨a1, a2⟩ := HF.out w5 A5 c5 HOW5.out HU5.out (fun i hi => HO5.out i (by rw [← hi]; exact ownB)) _ rfl
    rw [HSG.out] at a1 a2
    first
      | exact ⟨rfl, a1, A5, c5, a2, fun i hi => HO5.out i (by rw [← hi]; exact ownB)⟩
      | exact ⟨rfl, a1, A5, ⟨c5, a2⟩, fun i hi => HO5.out i (by rw [← hi]; exact ownB)⟩
  · have hvx : x.toNat = v := by rw [HVV.out]; unfold Cf.va; omega
    have HSG : Hid (sgn x = 1) := Lib.hid (by unfold sgn; rw [if_neg hneg])
    have i1 : x < (n : Int) + 1 := by omega
    have i2 : 0 ≤ x := by omega
    go_enter Try.func80, Try.ntmps80
    go_wp2_with (at_builtin; refine wpList_append_any _ rfl (.tmp 8) (.tmp 10) 22 rfl 0 37 i0 _ 1 8 Try.underlying22 hi0 hz0 hz1 hz2 rfl (by decide) _ t _ rfl (HOL.out.alloc _) (w.heap.size + 1) (some ⟨w.heap.size, 0, none⟩) 1 1 [.int .i64 x] rfl (reads_one (Blk.new _ _ _) (by omega)) (ints_one [x]) (by unfold maxLen; omega) (by omega) (Nat.zero_le _) ?_; intro v5 w5 hown5 hg5 hat5; have HOW5 := Lib.hid hown5; have HU5 : Hid (Upd (fun k => (Value.slice At 0 0).ownBlock = some k) w w5) := Lib.hid (((Upd.refl _ w).alloc _).grown hg5 (fun j hj => .inl (by rw [← hj]; exact ownB))); have HB5 := Lib.hid (HB.out.upd HU5.out HNE.out.1); have HVB5 := Lib.hid (HVB.out.upd HU5.out HNE.out.2); have f5 : w5.frozen? ⟨p, 2, none⟩ = false := HB5.out.frozen 2; have k5 : ∃ u, w5.cell? ⟨p, 2, none⟩ = some u := ⟨_, HB5.out.cell 2⟩; obtain ⟨u5, k5⟩ := k5; have kp1 : ∀ y, (w5.setCell ⟨p, 2, none⟩ y).cell? ⟨p, 1, none⟩ = some (.slice (some ⟨gv, 0, none⟩) (n + 1) (n + 1)) := fun y => (HB5.out.set_ 2 y).cell 1; have fv5 : ∀ y, (w5.setCell ⟨p, 2, none⟩ y).frozen? ⟨gv, v, none⟩ = false := fun y => (HVB5.out.far (p := ⟨p, 2, none⟩) (fun e => HPV.out e.symm) y).frozen v; have kv5 : ∀ y, ∃ u, (w5.setCell ⟨p, 2, none⟩ y).cell? ⟨gv, v, none⟩ = some u := fun y => ⟨_, ((HVB5.out.far (p := ⟨p, 2, none⟩) (fun e => HPV.out e.symm) y).cell v).trans (VA.get (by omega))⟩; have HO5 : Hid (∀ j, v5.ownBlock = some j → (Value.slice At 0 0).ownBlock = some j ∨ w.heap.size ≤ j) := Lib.hid (fun j hj => own_or At t ct v5.ownBlock w.heap.size j hj (by rcases hat5 with h | h; (· exact .inl h); (· exact .inr (h.trans (by rw [World.size_alloc]))))); obtain ⟨A5, c5, rfl⟩ := ownL_shape hown5; obtain ⟨u6, kv5⟩ := kv5 (.slice A5 (t + 1) c5); clear hown5 hg5 hat5 k2)
    go_end0
    obtain ⟨a1, a2⟩ := HF.out w5 A5 c5 HOW5.out HU5.out (fun i hi => HO5.out i (by rw [← hi]; exact ownB)) _ rfl
    rw [HSG.out] at a1 a2
    first
      | exact ⟨rfl, a1, A5, c5, a2, fun i hi => HO5.out i (by rw [← hi]; exact ownB)⟩
      | exact ⟨rfl, a1, A5, ⟨c5, a2⟩, fun i hi => HO5.out i (by rw [← hi]; exact ownB)⟩
end Go.Proofs.Ytghfelfljblkbaa
