/- wal: Open. -/
import Derived.Test.YtiiegimnnngnnaaLog7
import Derived.Test.YtiiegimnnngnnaaRows2
import Derived.OwnWalk
namespace Go.Proofs.Ytiiegimnnngnnaa
open Go.RowKit
set_option linter.unusedVariables false

/-- A block of bytes. -/
def U8 (w : World) (g : Nat) : Prop := ∃ cs fr, w.heap[g]? = some (.cells cs 5 fr)
theorem U8.lt {w : World} {g : Nat} (h : U8 w g) : g < w.heap.size := by
  obtain ⟨cs, fr, h⟩ := h
  exact (Array.getElem?_eq_some_iff.1 h).1
/-- Slices of bytes as a row's elements, each in a block from lo on. -/
def RowsIn (w : World) (lo : Nat) (xs : List Value) (L : List (List Nat)) : Prop :=
  xs.length = L.length ∧ ∀ j (h : j < L.length), ∃ Aj cj, xs[j]? = some (.slice Aj (L[j]).length cj) ∧ (L[j]).length ≤ cj ∧ cj ≤ maxLen ∧ Bytes w Aj (L[j]).length L[j] ∧ ∀ g o, Aj = some ⟨g, o, none⟩ → lo ≤ g ∧ U8 w g
theorem RowsIn.nil (w : World) (lo : Nat) : RowsIn w lo [] [] := ⟨rfl, fun j h => absurd h (by simp)⟩
theorem RowsIn.upd {T : Nat → Prop} {w w' : World} {lo : Nat} {xs : List Value} {L : List (List Nat)} (h : RowsIn w lo xs L) (hu : Upd T w w') (hT : ∀ k, T k → k < lo ∨ ¬ U8 w k) : RowsIn w' lo xs L := by
  refine ⟨h.1, fun j hj => ?_⟩
  obtain ⟨Aj, cj, h1, h2, h3, h4, h5⟩ := h.2 j hj
  have key : ∀ g o, Aj = some ⟨g, o, none⟩ → ¬ T g := fun g o e ht => by
    have h6 := h5 g o e
    rcases hT g ht with h7 | h7
    · omega
    · exact h7 h6.2
  refine ⟨Aj, cj, h1, h2, h3, h4.upd hu (fun b o e _ => key b o e), fun g o e => ⟨(h5 g o e).1, ?_⟩⟩
  obtain ⟨cs, fr, h8⟩ := (h5 g o e).2
  exact ⟨cs, fr, (hu.block g (h5 g o e).2.lt (key g o e)).trans h8⟩
theorem RowsIn.snoc {w : World} {lo : Nat} {xs : List Value} {L : List (List Nat)} {A : Option Addr} {c : Nat} {b : List Nat} (h : RowsIn w lo xs L) (hb : Bytes w A b.length b) (hc : b.length ≤ c) (hm : c ≤ maxLen) (hA : ∀ g o, A = some ⟨g, o, none⟩ → lo ≤ g ∧ U8 w g) : RowsIn w lo (xs ++ [.slice A b.length c]) (L ++ [b]) := by
  refine ⟨by rw [List.length_append, List.length_append, h.1]; rfl, fun j hj => ?_⟩
  rw [List.length_append] at hj
  by_cases e : j < L.length
  · obtain ⟨Aj, cj, h1, h2, h3, h4, h5⟩ := h.2 j e
    have e1 : (L ++ [b])[j] = L[j] := List.getElem_append_left e
    refine ⟨Aj, cj, ?_, by rw [e1]; exact h2, h3, by rw [e1]; exact h4, h5⟩
    rw [List.getElem?_append_left (by rw [h.1]; exact e), e1]; exact h1
  · have e2 : j = L.length := by simp at hj; omega
    subst e2
    have e1 : (L ++ [b])[L.length] = b := by simp
    refine ⟨A, c, ?_, by rw [e1]; exact hc, hm, by rw [e1]; exact hb, hA⟩
    rw [e1, ← h.1, List.getElem?_concat_length]
theorem RowsIn.at {w : World} {lo base : Nat} {v : Value} {n : Nat} {xs : List Value} {L : List (List Nat)} (h : RowsIn w lo xs L) (ho : w.ownsRow base 22 1 v n xs) : RowsAt w v L := by
  have hl : n = L.length := by rw [← h.1]; have := ho.1; omega
  subst hl
  rcases ho.2 with ⟨rfl, hn⟩ | ⟨g, cap, cur, rfl, hbg, hg, hnc, hcm, hcs, htake⟩
  · have e : L = [] := List.eq_nil_of_length_eq_zero hn
    subst e
    exact RowsAt.nil w
  · refine ⟨_, cap, rfl, hnc, hcm, fun j hj => ?_⟩
    obtain ⟨Aj, cj, h1, h2, h3, h4, _⟩ := h.2 j hj
    refine ⟨g, 0, Aj, cj, rfl, ?_, h2, h3, h4⟩
    rw [Nat.zero_add, ho.cellAt j (by omega)]
    exact h1
theorem Own.bytes2 {w : World} {base : Nat} {v : Value} {bs : List Nat} (h : Own w base v bs) (hb : ∀ x ∈ bs, x < 256) : ∃ A c, v = .slice A bs.length c ∧ Bytes w A bs.length bs ∧ bs.length ≤ c ∧ c ≤ maxLen ∧ ∀ g o, A = some ⟨g, o, none⟩ → base ≤ g ∧ U8 w g := by
  obtain ⟨A, c, rfl, h1, h2, h3, _, h5⟩ := h.bytes hb
  refine ⟨A, c, rfl, h1, h2, h3, fun g o e => ⟨h5 g o e, ?_⟩⟩
  subst e
  rcases h.2 with ⟨h0, _⟩ | ⟨g', cap, cur, h0, hbg, hg, _⟩
  · cases h0
  · cases h0
    exact ⟨_, _, hg⟩
theorem recAt_lt {R : Nat → Nat} (h : ∀ k, R k < 256) {p to : Nat} {b : List Nat} (e : Wl.recAt R p to = some b) : ∀ x ∈ b, x < 256 := by
  unfold Wl.recAt at e
  split at e
  · cases e
  · split at e
    · cases e
    · split at e
      · obtain rfl := Option.some.inj e
        exact Wl.part_lt h _ _
      · cases e
theorem not_u8 {w : World} {base : Nat} {v : Value} {n : Nat} {xs : List Value} (h : w.ownsRow base 22 1 v n xs) {k : Nat} (hk : v.ownBlock = some k) : ¬ U8 w k := by
  rintro ⟨cs, fr, h8⟩
  rcases h.2 with ⟨rfl, _⟩ | ⟨g, cap, cur, rfl, _, hg, _⟩
  · cases hk
  · have : g = k := by simpa [Value.ownBlock] using hk
    subst this
    rw [hg] at h8
    injection h8 with h8
    injection h8 with _ ht
    exact absurd ht (by decide)
theorem not_u8_new {w : World} {k : Nat} (hk : w.heap.size ≤ k) : ¬ U8 w k := fun h => by have := h.lt; omega
theorem slice_one (x : Value) (A : Option Addr) (n c : Nat) (h : x = .slice A n c) : ∀ u ∈ [x], u.oneCell' = true := fun u hu => by simp at hu; subst hu; subst h; rfl
theorem own_upd {T : Nat → Prop} {w w' : World} {base : Nat} {e : TypeId} {size n : Nat} {v : Value} {xs : List Value} (h : w.ownsRow base e size v n xs) (hu : Upd T w w') (hT : ∀ k, v.ownBlock = some k → ¬ T k) : w'.ownsRow base e size v n xs := by
  refine ⟨h.1, ?_⟩
  rcases h.2 with h2 | ⟨g, cap, cur, rfl, hg, hh, h3⟩
  · exact .inl h2
  · exact .inr ⟨g, cap, cur, rfl, hg, (hu.block g (Blk.lt hh) (hT g rfl)).trans hh, h3⟩
theorem own_sect {w : World} {base : Nat} {v : Value} {bs : List Nat} (h : Own w base v bs) (hl : bs.length = 64) : ∃ g cap, v = .slice (some ⟨g, 0, none⟩) 64 cap ∧ Sect w g 5 1 (fun k => bs.getD k 0) ∧ base ≤ g ∧ 64 ≤ cap ∧ cap ≤ maxLen := by
  unfold Own at h
  rw [hl] at h
  rcases h.2 with ⟨rfl, hn⟩ | ⟨g, cap, cur, rfl, hbg, hg, hnc, hcm, hcs, htake⟩
  · cases hn
  · refine ⟨g, cap, rfl, ⟨cur, hg, by omega, fun i hi => ?_⟩, hbg, hnc, hcm⟩
    have h1 := h.cellAt i (by omega)
    rw [cell_of_row w g i cur _ (0, 0) hg, List.getElem?_map, List.getElem?_eq_getElem (by omega)] at h1
    show cur[i]? = some (Value.int .u8 ((bs.getD i 0 : Nat) : Int))
    rw [h1, List.getD_eq_getElem?_getD, List.getElem?_eq_getElem (by omega)]
    rfl
theorem slice_row : (Try.prog.info? 22).map (fun i => (i.zero, i.size, i.bytes)) = some (some (.slice none 0 0), 1, 24) := by kernel_rfl
/-- Rows that lie from lo on: what changes below leaves them. -/
def RowsFrom (w : World) (lo : Nat) (v : Value) (L : List (List Nat)) : Prop := RowsAt w v L ∧ ∀ (T : Nat → Prop) (w2 : World), Upd T w w2 → (∀ k, T k → k < lo) → RowsAt w2 v L
/-- What Open hands back. -/
def OpenRes (w w' : World) (p fr to : Nat) (m : Nat → Nat) (e : Ending) : Option (List (List Nat) × Nat) → Prop
  | none => e = .returned (.tuple #[.pointer none, .slice none 0 0, .int .i64 3])
  | some q => ∃ l g cap v, e = .returned (.tuple #[.pointer (some ⟨l, 0, none⟩), v, .int .i64 0]) ∧ LogAt w' l g cap p ⟨fr, to, q.1.length, q.2, m, false⟩ ∧ w.heap.size ≤ l ∧ w.heap.size ≤ g ∧ RowsFrom w' w.heap.size v q.1
set_option maxRecDepth 100000 in
set_option maxHeartbeats 1000000 in
theorem Open_any (p r s cr cs : Nat) (D : Dk) (fr to : Nat) (w : World) (hd : DiskAt w p r s cr cs D) (hdn : D.down = false) (h1 : fr < to) (h2 : to ≤ D.n) :
    Calls Try.prog 49 #[.pointer (some ⟨p, 0, none⟩), .int .i64 (fr : Int), .int .i64 (to : Int)] w fun e w' => Below w.heap.size w w' ∧ OpenRes w w' p fr to (fun k => D.R (64 * fr + k)) e (Wl.opens D.R fr to) := by
  have hn4 := hd.ok.n
  have hR := hd.ok.R
  have ha := area_any p r s cr cs D (fr : Int) (to : Int) w hd
  have e : isArea D.n (fr : Int) (to : Int) = true := decide_eq_true ⟨by omega, by omega, by omega⟩
  rw [e] at ha
  have HA := Lib.hid ha
  have HD := Lib.hid hd
  have HDN := Lib.hid hdn
  have HR1 := Lib.hid (Read_ok p r s cr cs D fr w hd hdn (by omega))
  have HLT := Lib.hid hR
  obtain ⟨i0, hi0, hz0, hz1, hz2⟩ := info_parts slice_row
  obtain ⟨O, hO⟩ : ∃ O, O = Wl.opens D.R fr to := ⟨_, rfl⟩
  rw [← hO]
  have HO := Lib.hid hO
  obtain ⟨m, hm⟩ : ∃ m : Nat → Nat, m = fun k => D.R (64 * fr + k) := ⟨_, rfl⟩
  have HMM : Hid (∀ i, Wl.mk D.R fr i = Wl.mk m 0 i) := Lib.hid (fun i => Wl.mk_at (fun k _ => by rw [hm]))
  rw [← hm]
  have HM := Lib.hid hm
  clear ha e hd hdn hR hO hm
  go_enter Try.func49, Try.ntmps49
  go_wp2_with (go_at_call 69; refine HA.out.mono ?_; rintro e w' ⟨rfl, rfl⟩)
  go_at_call 31
  refine HR1.out.mono ?_
  rintro e w1 ⟨v1, rfl, ho1, hb1⟩
  obtain ⟨g, cap, rfl, hs1, hg1, hc1, hc2⟩ := own_sect ho1 (Wl.part_len _ _ _)
  have HS1 : Hid (Sect w1 g 5 1 m) := Lib.hid (hs1.congr fun i hi => by rw [HM.out]; exact Wl.part_getD _ _ _ _ (by omega))
  have HB1 := Lib.hid hb1
  have HCM := Lib.hid hc2
  obtain ⟨l, hl⟩ : ∃ l, l = w1.heap.size := ⟨_, rfl⟩
  have hwl : w.heap.size ≤ l := by rw [hl]; exact hb1.size
  have hgl : g < l := by rw [hl]; exact hs1.lt
  clear ho1 hb1 hs1 hc2
  go_wp2_with fail
  rw [← hl]
  obtain ⟨W2, hW2⟩ : ∃ W2, W2 = w1.alloc (.cells #[Value.pointer (some ⟨p, 0, none⟩), .int .i64 (fr : Int), .int .i64 (to : Int), .slice (some ⟨g, 0, none⟩) 64 cap, .int .i64 0, .int .i64 ((fr : Int) + 1), .bool false] 98) := ⟨_, rfl⟩
  rw [← hW2]
  have hb2 : Below w.heap.size w W2 := by rw [hW2]; exact HB1.out.alloc HB1.out.size _
  have hk2 : LogAt W2 l g cap p ⟨fr, to, 0, fr + 1, m, false⟩ := by
    refine ⟨?_, ?_, fun k => by rw [HM.out]; exact HLT.out _, hc1, HCM.out⟩
    · rw [hW2, hl]
      exact (Blk.new _ _ _).cast (by simp)
    · rw [hW2]; exact HS1.out.alloc _
  have hs2 : l + 1 ≤ W2.heap.size := by rw [hW2, hl]; simp
  have HK2 := Lib.hid hk2
  have HB2 := Lib.hid hb2
  have HG0 : Hid (O = match Wl.go D.R to fr (512 - 0) 0 (fr + 1) with | none => none | some q => some ([] ++ q.1, q.2)) := Lib.hid (by
    rw [HO.out]
    show Wl.go D.R to fr 512 0 (fr + 1) = _
    cases Wl.go D.R to fr 512 0 (fr + 1) <;> rfl)
  have HL2 := Lib.hid (show l < W2.heap.size ∧ W2.heap.size ≤ W2.heap.size from ⟨by omega, Nat.le_refl _⟩)
  clear hl hW2 hk2 hb2
  go_loopw [12] (fun v wr => ∃ (i nx : Nat) (acc : List (List Nat)) (A : Option Addr) (c : Nat) (xs : List Value), v = .slice A i c ∧
    Hid (wr.ownsRow (l + 1) 22 1 (.slice A i c) i xs) ∧ Hid (RowsIn wr (l + 1) xs acc) ∧ Hid (LogAt wr l g cap p ⟨fr, to, i, nx, m, false⟩) ∧ Hid (Below w.heap.size w wr) ∧ Hid (l + 1 ≤ wr.heap.size) ∧ Hid (acc.length = i) ∧ i ≤ 512 ∧ nx ≤ to ∧
    Hid (O = match Wl.go D.R to fr (512 - i) i nx with | none => none | some q => some (acc ++ q.1, q.2))) (fun v _ => 512 - (match v with | .slice _ n _ => n | _ => 0))
  case atStart => exact ⟨0, fr + 1, [], none, 0, [], rfl, Lib.hid (World.ownsRow_nil _ _ _ _), Lib.hid (RowsIn.nil _ _), HK2, HB2, Lib.hid hs2, Lib.hid rfl, by omega, by omega, HG0⟩
  case round =>
    obtain ⟨i, nx, acc, A, c, xs, rfl, HOW, HRI, HLG, HB, HSZ, HAL, hi, hnx, HGO⟩ := hrel
    have k4 : wr.cell? ⟨l, 4, none⟩ = some (.int .i64 (i : Int)) := HLG.out.blk.cell 4
    have k5 : wr.cell? ⟨l, 5, none⟩ = some (.int .i64 (nx : Int)) := HLG.out.blk.cell 5
    have HMK := Lib.hid (marked_any l g cap p _ i wr HLG.out hi)
    obtain ⟨bm, hbm⟩ : ∃ bm, bm = Wl.mk m 0 i := ⟨_, rfl⟩
    rw [show (⟨fr, to, i, nx, m, false⟩ : Wl.Lg).m = m from rfl, ← hbm] at HMK
    cases bm with
    | false =>
      have hst : Wl.go D.R to fr (512 - i) i nx = some ([], nx) := by
        rcases Nat.lt_or_ge i 512 with h5 | h5
        · obtain ⟨f, hf⟩ : ∃ f, 512 - i = f + 1 := ⟨511 - i, by omega⟩
          rw [hf]
          unfold Wl.go
          rw [if_neg (by rw [HMM.out, ← hbm]; decide)]
        · rw [show 512 - i = 0 by omega]; rfl
      have HEQ : Hid (O = some (acc, nx)) := Lib.hid (by rw [HGO.out, hst]; simp)
      clear hst hbm HGO
      go_wp2_with (go_at_call 70; refine HMK.out.mono ?_; rintro e w' ⟨rfl, rfl⟩)
      go_ret3
      refine ⟨HB.out, ?_⟩
      rw [HEQ.out]
      refine ⟨l, g, cap, _, rfl, ?_, hwl, hg1, HRI.out.at HOW.out, fun T w2 hu hT => (HRI.out.upd hu (fun k hk => .inl (by have := hT k hk; omega))).at (own_upd HOW.out hu (fun k hk ht => by have h1 := (HOW.out.lt k hk).1; have h2 := hT k ht; omega))⟩
      show LogAt wr l g cap p ⟨fr, to, acc.length, nx, m, false⟩
      rw [HAL.out]
      exact HLG.out
    | true =>
      have h5 : i < 512 := by
        rcases Nat.lt_or_ge i 512 with h5 | h5
        · exact h5
        · have : Wl.mk m 0 i = false := by unfold Wl.mk; rw [decide_eq_false (by omega)]; rfl
          rw [this] at hbm; cases hbm
      obtain ⟨f, hf⟩ : ∃ f, 512 - i = f + 1 := ⟨511 - i, by omega⟩
      have HD3 := HD.out.below (HB.out.trans (Below.refl _ _))
      have HRC := record_any l g cap p r s cr cs D ⟨fr, to, i, nx, m, false⟩ nx wr HLG.out (HD.out.below HB.out) HDN.out h2 (by omega)
      have hst : Wl.go D.R to fr (512 - i) i nx = match Wl.recAt D.R nx to with
          | none => none
          | some b => match Wl.go D.R to fr (512 - (i + 1)) (i + 1) (nx + Wl.need b.length) with
            | none => none
            | some q => some (b :: q.1, q.2) := by
        rw [hf, show 512 - (i + 1) = f by omega]
        show (if Wl.mk D.R fr i = true then _ else _) = _
        rw [if_pos (by rw [HMM.out, ← hbm])]
        cases Wl.recAt D.R nx to with
        | none => rfl
        | some b => dsimp only; cases Wl.go D.R to fr f (i + 1) (nx + Wl.need b.length) <;> rfl
      rw [show (⟨fr, to, i, nx, m, false⟩ : Wl.Lg).to = to from rfl] at HRC
      cases hrec : Wl.recAt D.R nx to with
      | none =>
        rw [hrec] at hst HRC
        have HEQ : Hid (O = none) := Lib.hid (by rw [HGO.out, hst])
        have HRD := Lib.hid HRC
        clear hst hbm HGO HRC hrec HD3 hf
        go_wp2_with (go_at_call 70; refine HMK.out.mono ?_; rintro e w' ⟨rfl, rfl⟩)
        go_at_call 71
        refine HRD.out.mono ?_
        rintro e w3 ⟨hb3, rfl⟩
        have HB3 := Lib.hid (HB.out.trans (hb3.mono HB.out.size))
        clear hb3
        go_wp2_with fail
        go_ret3
        refine ⟨HB3.out, ?_⟩
        rw [HEQ.out]
        rfl
      | some b =>
        rw [hrec] at hst HRC
        have HRD := Lib.hid HRC
        obtain ⟨hb8, _, hbt⟩ := Wl.recAt_some hrec
        have HB8 := Lib.hid (recAt_lt HLT.out hrec)
        have HEQ : Hid (O = match Wl.go D.R to fr (512 - (i + 1)) (i + 1) (nx + Wl.need b.length) with | none => none | some q => some ((acc ++ [b]) ++ q.1, q.2)) := Lib.hid (by
          rw [HGO.out, hst]
          dsimp only
          cases Wl.go D.R to fr (512 - (i + 1)) (i + 1) (nx + Wl.need b.length) with
          | none => rfl
          | some q => simp)
        clear hst hbm HGO HRC hrec HD3 hf
        go_wp2_with (go_at_call 70; refine HMK.out.mono ?_; rintro e w' ⟨rfl, rfl⟩)
        go_at_call 71
        refine HRD.out.mono ?_
        rintro e w3 ⟨hb3, v3, rfl, ho3⟩
        have HB3 := Lib.hid (HB.out.trans (hb3.mono HB.out.size))
        obtain ⟨A3, c3, rfl, hy3, hc3, hm3, hlo3⟩ := ho3.bytes2 HB8.out
        have HU3 : Hid (Upd (fun k => wr.heap.size ≤ k) wr w3) := Lib.hid (Upd.of_below hb3 (fun _ _ h => h))
        have HOW3 := Lib.hid (own_later HOW.out hb3)
        have HLG3 := Lib.hid (HLG.out.upd HU3.out (by have := HLG.out.blk.lt; omega) (by have := HLG.out.marks.lt; omega))
        have HRI3 := Lib.hid ((HRI.out.upd HU3.out (fun k hk => .inr (not_u8_new hk))).snoc hy3 hc3 hm3 (fun g o e => ⟨Nat.le_trans HSZ.out (hlo3 g o e).1, (hlo3 g o e).2⟩))
        have HSZ3 := Lib.hid (Nat.le_trans HSZ.out hb3.size)
        have HND := Lib.hid (fun W => Need_nat b.length W (by omega))
        obtain ⟨kn, hkn⟩ : ∃ kn, kn = Wl.need b.length := ⟨_, rfl⟩
        simp only [← hkn] at HND HEQ hbt
        clear hb3 ho3 hy3 hc3 hm3 hlo3 HOW HLG HRI hkn
        go_wp2_with (at_builtin; refine wpList_append_own _ rfl (.tmp 55) (.tmp 57) 57 rfl (l + 1) 22 i0 (.slice none 0 0) 1 24 Try.underlying57 hi0 hz0 hz1 hz2 rfl (by decide) _ i xs rfl (HOW3.out.alloc _) ⟨w3.heap.size, 0, none⟩ 1 1 [.slice A3 b.length c3] rfl rfl (cell_one_new _ _ _) (slice_one _ _ _ _ rfl) (by unfold maxLen; omega) (by omega) (Nat.le_trans HSZ3.out (by simp)) ?_; intro v5 w5 hown5 hg5 hn5; have HOW5 := Lib.hid hown5; have HU5 : Hid (Upd (fun k => (Value.slice A i c).ownBlock = some k) w3 w5) := Lib.hid (((Upd.refl _ w3).alloc _).grown hg5 (fun k hk => .inl hk)); obtain ⟨A5, c5, rfl⟩ := own_shape hown5; clear hown5 hg5 hn5)
        have HT5 : Hid (∀ k, (Value.slice A i c).ownBlock = some k → l + 1 ≤ k ∧ ¬ U8 w3 k) := Lib.hid (fun k hk => ⟨(HOW3.out.lt k hk).1, not_u8 HOW3.out hk⟩)
        have HLG5 := Lib.hid (HLG3.out.upd HU5.out (fun h => by have := HT5.out _ h; omega) (fun h => by have := HT5.out _ h; omega))
        have HRI5 := Lib.hid (HRI3.out.upd HU5.out (fun k hk => .inr (HT5.out k hk).2))
        have k5' : w5.cell? ⟨l, 5, none⟩ = some (.int .i64 (nx : Int)) := HLG5.out.blk.cell 5
        have k4' : w5.cell? ⟨l, 4, none⟩ = some (.int .i64 (i : Int)) := HLG5.out.blk.cell 4
        have f5 : w5.frozen? ⟨l, 5, none⟩ = false := HLG5.out.blk.frozen 5
        have f4 : w5.frozen? ⟨l, 4, none⟩ = false := HLG5.out.blk.frozen 4
        clear k4 k5
        go_still_tail 10, (by kernel_rfl)
        still_call ((HND.out _).mono fun e w' h => ⟨h.1, h.2.symm⟩)
        repeat still_step
        refine wpStill_nil ?_
        change wpList _ _ _ _ _ w5.drew
        go_wp2_with fail
        have hu6 : Upd (fun k => k = l) w5 ((w5.setCell ⟨l, 5, none⟩ (.int .i64 ((nx : Int) + (kn : Int)))).setCell ⟨l, 4, none⟩ (.int .i64 ((i : Int) + 1))).drew := (((Upd.refl (fun k => k = l) w5).setCell (p := ⟨l, 5, none⟩) (.inl rfl) _).setCell (p := ⟨l, 4, none⟩) (.inl rfl) _).drew
        have hlg6 : LogAt ((w5.setCell ⟨l, 5, none⟩ (.int .i64 ((nx : Int) + (kn : Int)))).setCell ⟨l, 4, none⟩ (.int .i64 ((i : Int) + 1))).drew l g cap p ⟨fr, to, i + 1, nx + kn, m, false⟩ := by
          refine ⟨?_, ?_, HLG5.out.mlt, HLG5.out.big, HLG5.out.top⟩
          · exact ((HLG5.out.blk.set_ 5 (.int .i64 ((nx : Int) + (kn : Int)))).set_ 4 (.int .i64 ((i : Int) + 1))).cast (by simp)
          · have hne : g ≠ l := by omega
            exact ((HLG5.out.marks.far (p := ⟨l, 5, none⟩) hne _).far (p := ⟨l, 4, none⟩) hne _).drew
        have hb5 : Below w.heap.size w w5 := HB3.out.trans (HU5.out.below (fun k hk => by have := (HT5.out k hk).1; omega) HB3.out.size)
        refine ⟨⟨i + 1, nx + kn, acc ++ [b], A5, c5, _, rfl, Lib.hid (own_upd HOW5.out hu6 (fun k hk e => ?_)), Lib.hid (HRI5.out.upd hu6 (fun k hk => .inl (by omega))), Lib.hid hlg6, Lib.hid (hb5.trans (hu6.below (fun k hk => by omega) hb5.size)), Lib.hid ?_, Lib.hid (by rw [List.length_append, HAL.out]; rfl), by omega, by omega, HEQ⟩, ?_⟩
        · have := (HOW5.out.lt k hk).1; omega
        · have h8 := HU5.out.size
          have h9 := hu6.size
          have := HSZ3.out
          omega
        · show 512 - (i + 1) < 512 - i
          omega
end Go.Proofs.Ytiiegimnnngnnaa
