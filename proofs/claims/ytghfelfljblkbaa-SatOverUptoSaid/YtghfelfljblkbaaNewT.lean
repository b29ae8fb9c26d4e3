/- prop: New. -/
import Derived.Test.YtghfelfljblkbaaFollow
import Derived.Test.YtghfelfljblkbaaAt
import Derived.Deep.RegionHeld3
namespace Go.Proofs.Ytghfelfljblkbaa
open Go.RowKit Go.Sort
set_option linter.unusedVariables false

section
variable {P : Program}
theorem make_row1 (t e : TypeId) (i : TypeInfo) (z : Value) (ht : P.underlying t = some (.slice e)) (hi : P.info? e = some i) (hz : i.zero = some z)
    (kl kc : IntKind) (n : Nat) (hbytes : i.bytes * n ≤ 281474976710656) (h63 : n ≤ 9223372036854775807) (w : World) :
    (Instr.makeSlice t (.int kl (n : Int)) (.int kc (n : Int))).run P w = .ok (.slice (some ⟨w.heap.size, 0, none⟩) n n) (w.alloc (.cells (madeCells z.cells (n * i.size)) e)) := by
  have hb : (i.bytes : Int) * (n : Int) ≤ 281474976710656 := by
    have h : ((i.bytes * n : Nat) : Int) ≤ 281474976710656 := by omega
    rwa [Int.natCast_mul] at h
  have hr := run_make (P := P) w t e i z ht hi hz kl kc n n (by omega) (by omega) hb (by omega)
  simp only [Int.toNat_natCast] at hr
  exact hr
end
theorem make_ints (n : Nat) (hn : n ≤ 1000000) (W : World) : (Instr.makeSlice 85 (.int .i64 ((n : Int) + 1)) (.int .i64 ((n : Int) + 1))).run Try.prog W = .ok (.slice (some ⟨W.heap.size, 0, none⟩) (n + 1) (n + 1)) (W.alloc (.cells (VA n fun _ => 0) 3)) := by
  obtain ⟨i0, hi0, hz0, hz1, hz2⟩ := info_parts int_row
  have := make_row1 85 3 i0 (.int .i64 0) Try.underlying85 hi0 hz0 .i64 .i64 (n + 1) (by rw [hz2]; omega) (by omega) W
  have e : madeCells (Value.int .i64 0).cells ((n + 1) * i0.size) = VA n fun _ => 0 := by
    rw [hz1, Nat.mul_one]
    unfold VA madeCells
    apply Array.ext
    · simp
    · intro k h1 h2
      simp [Value.cells, Nat.mod_one]
  rw [e] at this
  exact this
/-- Slices that lie in blocks from one on. -/
def From (base : Nat) (xs : List Value) : Prop := ∀ v ∈ xs, ∀ g o l c, v = .slice (some ⟨g, o, none⟩) l c → base ≤ g
/-- A trail that is being made. -/
structure TrPre (w0 w : World) (p gv : Nat) (A : Option Addr) (c n : Nat) (L : List (List Int)) : Prop where
  blk : Blk w p 87 #[.slice A L.length c, .slice (some ⟨gv, 0, none⟩) (n + 1) (n + 1), .slice none 0 0, .slice none 0 0]
  val : Blk w gv 3 (VA n fun _ => 0)
  row : ∃ ys, w.ownsRow w0.heap.size 22 1 (.slice A L.length c) L.length ys ∧ LIn w ys L ∧ From w0.heap.size ys
  bel : Below w0.heap.size w0 w
  p0 : w0.heap.size ≤ p
  g0 : w0.heap.size ≤ gv
theorem tr_isL {w : World} {p : Nat} {C : Array Value} (hb : Blk w p 87 C) : ¬ IsL w p := by
  rintro ⟨cs, fr, h8⟩
  unfold Blk at hb
  rw [hb] at h8
  injection h8 with h8
  injection h8 with _ ht
  exact absurd ht (by decide)
theorem int_isL {w : World} {p : Nat} {C : Array Value} (hb : Blk w p 3 C) : ¬ IsL w p := by
  rintro ⟨cs, fr, h8⟩
  unfold Blk at hb
  rw [hb] at h8
  injection h8 with h8
  injection h8 with _ ht
  exact absurd ht (by decide)
theorem tv_nil : tv [] = fun _ => 0 := by funext v; rfl
/-- What has been made is a trail on which nothing is. -/
theorem TrPre.tr {w0 w : World} {p gv c n : Nat} {A : Option Addr} {L : List (List Int)} (h : TrPre w0 w p gv A c n L) (hn : n ≤ 200) (hl : L.length ≤ 5000) (hsh : ∀ c ∈ L, c.length ≤ 1048576) (hcl : Pr.Cl n L) :
    TrAt w p gv A none none c 0 0 n (fun i => w0.heap.size ≤ i ∧ i < w.heap.size ∧ i ≠ p ∧ i ≠ gv) L [] [] := by
  obtain ⟨ys, ho, hi, hf⟩ := h.row
  refine ⟨h.blk, ⟨fun i hi => hi.2.1, fun h0 => ?_⟩, ?_, World.ownsRow_nil _ _ _ _, World.ownsRow_nil _ _ _ _, Un.nil n, hcl, hn, hl, hsh, (by intro e; cases e), fun i hi => ⟨hi.2.2.1, hi.2.2.2, (by intro e; cases e), (by intro e; cases e)⟩⟩
  · have hcell : ∀ j (hj : j < L.length), ∃ g Aj cj, A = some ⟨g, 0, none⟩ ∧ w.cell? ⟨g, j, none⟩ = some (.slice Aj (L[j]).length cj) ∧ Lits w Aj (L[j]).length L[j] ∧ ∀ g o, Aj = some ⟨g, o, none⟩ → w0.heap.size ≤ g ∧ IsL w g := fun j hj => by
      obtain ⟨Aj, cj, h1, h2, h3⟩ := hi.2 j hj
      have hA : ∃ g, A = some ⟨g, 0, none⟩ := by
        rcases ho.2 with ⟨_, h00⟩ | ⟨g, cap', cur, h0, _⟩
        · omega
        · cases h0; exact ⟨g, rfl⟩
      obtain ⟨g, rfl⟩ := hA
      refine ⟨g, Aj, cj, rfl, ?_, h2, fun g' o e => ⟨?_, h3 g' o e⟩⟩
      · rw [ho.cellAt j (by omega)]; exact h1
      · subst e
        exact hf _ (List.mem_of_getElem? h1) g' o _ _ rfl
    obtain ⟨g, _, _, hA, _⟩ := hcell 0 h0
    refine ⟨g, hA, ?_, fun j hj => ?_⟩
    · have := ho.lt g (by rw [hA]; rfl)
      refine ⟨this.1, this.2, fun e => ?_, fun e => ?_⟩
      · subst e
        exact own_blk_ne ho h.blk (by decide) (by rw [hA]; rfl)
      · subst e
        exact own_blk_ne ho h.val (by decide) (by rw [hA]; rfl)
    · obtain ⟨g', Aj, cj, hA', h1, h2, h3⟩ := hcell j hj
      rw [hA] at hA'
      cases hA'
      refine ⟨Aj, cj, h1, h2, fun g' o e => ?_⟩
      have := h3 g' o e
      refine ⟨this.1, this.2.lt, fun e => ?_, fun e => ?_⟩
      · subst e; exact tr_isL h.blk this.2
      · subst e; exact int_isL h.val this.2
  · rw [tv_nil]; exact h.val
set_option maxRecDepth 100000 in
set_option maxHeartbeats 4000000 in
theorem NewT_any (sp cap n : Nat) (A : Option Addr) (L : List (List Int)) (w : World) (h : SetAt w sp A cap n L) (hL : ∀ r ∈ L, r.length ≤ 1048576) (hcl : Pr.Cl n L) :
    Calls Try.prog 40 #[.pointer (some ⟨sp, 0, none⟩)] w fun e w' => ∃ p gv Al cl At ct K R, e = .returned (.pointer (some ⟨p, 0, none⟩)) ∧ TrAt w' p gv Al At none cl ct 0 n K L R [] ∧ Pr.Fol L [] R ∧ Below w.heap.size w w' ∧ (∀ i, tF p gv At none i ∨ K i → w.heap.size ≤ i) := by
  obtain ⟨i0, hi0, hz0, hz1, hz2⟩ := info_parts slice_row
  have hn := h.n
  have hlen := h.len
  have HS := Lib.hid h
  have HLL := Lib.hid hL
  have HCL := Lib.hid hcl
  have HVA := Lib.hid (Vars_any sp cap n A L w h)
  have HOK : Hid (∀ r ∈ L, ∀ z ∈ r, Ok z) := Lib.hid (fun r hr z hz => by
    have := hcl r hr z hz
    unfold Cf.va at this
    exact ⟨by omega, by omega⟩)
  have hmk := make_ints n (by omega)
  have HLN : Hid (∀ W, Below w.heap.size w W → Calls Try.prog 32 #[.pointer (some ⟨sp, 0, none⟩)] W fun e w' => e = .returned (.int .i64 (L.length : Int)) ∧ W = w') := Lib.hid (fun W hW => Len_any sp cap n A L W (h.below hW))
  clear h hL hcl
  go_enter Try.func40, Try.ntmps40
  go_wp2_with fail
  go_at_call 35
  refine HVA.out.mono ?_
  rintro e w1 ⟨rfl, rfl⟩
  go_wp2_with fail
  obtain ⟨W2, hW2⟩ : ∃ W2, W2 = (w.alloc (.cells (VA n fun _ => 0) 3)).alloc (.cells #[.slice none 0 0, .slice (some ⟨w.heap.size, 0, none⟩) (n + 1) (n + 1), .slice none 0 0, .slice none 0 0] 87) := ⟨_, rfl⟩
  have hb2 : Below w.heap.size w W2 := by rw [hW2]; exact ((Below.refl _ _).alloc (Nat.le_refl _) _).alloc (by simp) _
  have hpre : TrPre w W2 (w.heap.size + 1) w.heap.size none 0 n [] := by
    refine ⟨?_, ?_, ⟨[], World.ownsRow_nil _ _ _ _, LIn.nil _, fun v hv => by cases hv⟩, hb2, by omega, Nat.le_refl _⟩
    · rw [hW2]
      have := Blk.new (w.alloc (.cells (VA n fun _ => 0) 3)) 87 #[.slice none 0 0, .slice (some ⟨w.heap.size, 0, none⟩) (n + 1) (n + 1), .slice none 0 0, .slice none 0 0]
      rw [World.size_alloc] at this
      exact this
    · rw [hW2]
      exact (Blk.new w 3 (VA n fun _ => 0)).alloc _
  have HPRE := Lib.hid hpre
  have HLC := Lib.hid (HLN.out W2 hb2)
  clear hpre hb2 HVA
  subst hW2
  go_at_call 32
  refine HLC.out.mono ?_
  rintro e w3 ⟨rfl, rfl⟩
  clear HLC
  go_wp2_with fail
  go_loopw [15] (fun t wr => ∃ (i : Nat) (Ao : Option Addr) (co : Nat), t = .int .i64 (i : Int) ∧ i ≤ L.length ∧ Hid (TrPre w wr (w.heap.size + 1) w.heap.size Ao co n (L.take i))) (fun t _ => L.length - (match t with | .int _ x => x.toNat | _ => 0))
  case atStart => exact ⟨0, none, 0, rfl, Nat.zero_le _, by rw [List.take_zero]; exact HPRE⟩
  case round =>
    obtain ⟨i, Ao, co, rfl, hi, HT⟩ := hrel
    clear HPRE hmk
    have HWS := Lib.hid HT.out.bel.size
    by_cases hlt : i < L.length
    · obtain ⟨r, hr⟩ : ∃ r, r = L[i] := ⟨_, rfl⟩
      have hrl : r.length ≤ 1048576 := by rw [hr]; exact HLL.out _ (List.getElem_mem hlt)
      have hro : ∀ z ∈ r, Ok z := by rw [hr]; exact HOK.out _ (List.getElem_mem hlt)
      have hti : (L.take i).length = i := by rw [List.length_take]; omega
      obtain ⟨ys, hoy, hiy, hfy⟩ := HT.out.row
      rw [hti] at hoy
      have HOY := Lib.hid hoy
      have HIY := Lib.hid hiy
      have HFY := Lib.hid hfy
      have HRO := Lib.hid hro
      have HTK : Hid (L.take (i + 1) = L.take i ++ [r]) := Lib.hid (by rw [List.take_add_one, hr, List.getElem?_eq_getElem hlt]; rfl)
      have HBK : Hid (Blk wr (w.heap.size + 1) 87 #[.slice Ao i co, .slice (some ⟨w.heap.size, 0, none⟩) (n + 1) (n + 1), .slice none 0 0, .slice none 0 0]) := Lib.hid (by have := HT.out.blk; rw [hti] at this; exact this)
      have hkc : ∀ W, Below wr.heap.size wr W → W.cell? ⟨w.heap.size + 1, 0, none⟩ = some (.slice Ao i co) := fun W hW => (hW.cell HBK.out.lt).trans (HBK.out.cell 0)
      have HKC := Lib.hid hkc
      have HAT : Hid (∀ W, Below wr.heap.size wr W → Calls Try.prog 38 #[.pointer (some ⟨sp, 0, none⟩), .int .i64 (i : Int)] W fun e w' => ∃ v, e = .returned v ∧ OwnL w' W.heap.size v r ∧ Below W.heap.size W w') := Lib.hid (fun W hW => by
        have := At_any sp cap n A L (i : Int) W ((HS.out.below HT.out.bel).below hW) HLL.out
        rw [if_pos (by omega), Int.toNat_natCast, List.getD_eq_getElem?_getD, List.getElem?_eq_getElem hlt] at this
        rw [hr]
        exact this)
      have hb0 : Below wr.heap.size wr wr.drew := ⟨rfl, rfl, rfl, Nat.le_refl _, fun _ _ => rfl⟩
      have i1 : (i : Int) < (L.length : Int) := by omega
      have hi5 : i < 5000 := by omega
      clear hr hro hoy hiy hfy hkc hti
      go_wp2_with fail
      have kwr := HKC.out wr (Below.refl _ _)
      go_region_law
        (first
          | (go_simp
             go_at_call 38
             refine (HAT.out _ (by assumption)).mono ?_
             rintro e w2 ⟨v2, rfl, ho2, hb2⟩
             have hbx : Below wr.heap.size wr w2 := (show Below wr.heap.size wr _ from by assumption).trans (hb2.mono (show Below wr.heap.size wr _ from by assumption).size)
             obtain ⟨A2, c2, rfl, hl2, _, _, hf2⟩ := ho2.lits2 HRO.out
             have HL2 := Lib.hid hl2
             have HF2 : Hid (∀ g o, A2 = some ⟨g, o, none⟩ → w.heap.size ≤ g ∧ IsL w2 g) := Lib.hid (fun g o e => ⟨Nat.le_trans HWS.out (Nat.le_trans (show Below wr.heap.size wr _ from by assumption).size (hf2 g o e).1), (hf2 g o e).2⟩)
             have kw2 := HKC.out w2 hbx
             have hby : Below wr.heap.size wr (w2.alloc (.cells #[.slice A2 r.length c2] 22)) := hbx.alloc hbx.size _
             have kw3 := HKC.out _ hby
             clear ho2 hb2 hl2 hf2)
          | (refine step_append_any _ (by rfl) (.tmp 22) (.tmp 26) 28 (by rfl) w.heap.size 22 i0 (.slice none 0 0) 1 24 Try.underlying28 hi0 hz0 hz1 hz2 rfl (by decide) (.slice Ao i co) i ys (by simp [Act.eval]) ((ownL_later HOY.out hbx).alloc _) (w2.heap.size + 1) (some ⟨w2.heap.size, 0, none⟩) 1 1 [.slice A2 r.length c2] (by simp [Act.eval]) (reads_one (Blk.new _ _ _) (by omega)) (slice_one _ _ _ _ rfl) (by unfold maxLen; omega) (by omega) (Nat.le_trans HWS.out (Nat.le_trans hbx.size (by simp))) ?_
             intro v5 w5 hown5 hg5 hat5
             have HOW5 := Lib.hid hown5
             have HU5 : Hid (Upd (fun k => (Value.slice Ao 0 0).ownBlock = some k) w2 w5) := Lib.hid (((Upd.refl _ w2).alloc _).grown hg5 (fun j hj => .inl (by rw [← hj]; exact ownB)))
             have HB5 : Hid (Blk w5 (w.heap.size + 1) 87 #[.slice Ao i co, .slice (some ⟨w.heap.size, 0, none⟩) (n + 1) (n + 1), .slice none 0 0, .slice none 0 0]) := Lib.hid ((HBK.out.below hbx HBK.out.lt).upd HU5.out (fun h => own_blk_ne HOY.out HBK.out (by decide) (by rw [← h]; exact ownB)))
             have f5 : w5.frozen? ⟨w.heap.size + 1, 0, none⟩ = false := HB5.out.frozen 0
             have k5 : w5.cell? ⟨w.heap.size + 1, 0, none⟩ = some (.slice Ao i co) := HB5.out.cell 0
             have HO5 : Hid (∀ j, v5.ownBlock = some j → (Value.slice Ao 0 0).ownBlock = some j ∨ w2.heap.size ≤ j) := Lib.hid (fun j hj => own_or Ao i co v5.ownBlock w2.heap.size j hj (by
               rcases hat5 with h | h
               · exact .inl h
               · exact .inr (h.trans (by rw [World.size_alloc]))))
             obtain ⟨A5, c5, rfl⟩ := ownL_shape hown5
             clear hown5 hg5 hat5))
      all_goals
        go_wp2_with fail
        have hT5 : ∀ j, (Value.slice Ao 0 0).ownBlock = some j → ¬ IsL w2 j := fun j hj => not_isL (ownL_later HOY.out hbx) (by rw [← hj]; exact ownB)
        have hul : Upd (fun j => wr.heap.size ≤ j) wr w2 := Upd.of_below hbx (fun _ _ h => h)
        have hlin2 : LIn w2 ys (L.take i) := HIY.out.upd hul (fun k hk hI => by have hk' : wr.heap.size ≤ k := hk; have := hI.lt; omega)
        have hlin5 : LIn w5 (ys ++ [.slice A2 r.length c2]) (L.take i ++ [r]) := (hlin2.snoc HL2.out (fun g o e => (HF2.out g o e).2)).upd HU5.out hT5
        have huz : Upd (fun j => j = w.heap.size + 1) w5 (w5.setCell ⟨w.heap.size + 1, 0, none⟩ (.slice A5 (i + 1) c5)) := (Upd.refl (fun j => j = w.heap.size + 1) w5).setCell (p := ⟨w.heap.size + 1, 0, none⟩) (.inl rfl) _
        have hlen1 : (L.take (i + 1)).length = i + 1 := by rw [List.length_take]; omega
        have hgv : ¬ (Value.slice Ao 0 0).ownBlock = some w.heap.size := fun h => own_blk_ne HOY.out HT.out.val (by decide) (by rw [← h]; exact ownB)
        have hv2 : Blk w2 w.heap.size 3 (VA n fun _ => 0) := HT.out.val.below hbx HT.out.val.lt
        have hv5 := (hv2.upd HU5.out hgv).far (p := ⟨w.heap.size + 1, 0, none⟩) (by simp) (.slice A5 (i + 1) c5)
        have hb2 : Below w.heap.size w w2 := HT.out.bel.trans (hbx.mono HWS.out)
        have hb5 : Below w.heap.size w w5 := hb2.trans (HU5.out.below (fun k hk => (HOY.out.lt k (by rw [← hk]; exact ownB)).1) hb2.size)
        have hbz : Below w.heap.size w (w5.setCell ⟨w.heap.size + 1, 0, none⟩ (.slice A5 (i + 1) c5)) := hb5.trans (huz.below (fun k hk => by omega) hb5.size)
        have hset : TrPre w (w5.setCell ⟨w.heap.size + 1, 0, none⟩ (.slice A5 (i + 1) c5)) (w.heap.size + 1) w.heap.size A5 c5 n (L.take (i + 1)) := by
          refine ⟨?_, hv5, ⟨ys ++ [.slice A2 r.length c2], ?_, ?_, ?_⟩, hbz, by omega, Nat.le_refl _⟩
          · rw [hlen1]
            exact (HB5.out.set_ 0 (.slice A5 (i + 1) c5)).cast (by simp)
          · rw [hlen1]
            exact own_upd HOW5.out huz (fun j hj e => own_blk_ne HOW5.out HB5.out (by decide) (by rw [hj, e]))
          · rw [HTK.out]
            exact hlin5.upd huz (fun j hj => by rw [hj]; exact tr_isL HB5.out)
          · intro v hv g o l c e
            rcases List.mem_append.1 hv with h | h
            · exact HFY.out v h g o l c e
            · rw [List.mem_singleton.1 h] at e
              injection e with e1 e2 e3
              exact (HF2.out g o e1).1
        refine ⟨⟨i + 1, A5, c5, by go_num, by omega, Lib.hid hset⟩, ?_⟩
        show L.length - ((i : Int) + 1).toNat < L.length - (i : Int).toNat
        omega
    · have hil : i = L.length := by omega
      have HEQ : Hid (L.take i = L) := Lib.hid (by rw [hil]; exact List.take_of_length_le (Nat.le_refl _))
      have htr := HT.out
      rw [HEQ.out] at htr
      have HTR := Lib.hid (htr.tr hn hlen HLL.out HCL.out)
      have HFO := Lib.hid (follow_any (w.heap.size + 1) w.heap.size co 0 0 n Ao none none _ L [] [] wr HTR.out)
      have HBW := Lib.hid htr.bel
      clear hil htr HT
      go_wp2_with fail
      go_at_call 78
      refine HFO.out.mono ?_
      rintro e w5 ⟨rfl, R, At', ct', hf, hres⟩
      have HF5 := Lib.hid hf
      have HR5 := Lib.hid hres
      clear hf hres
      go_wp2_with fail
      go_ret
      refine ⟨w.heap.size + 1, w.heap.size, Ao, co, At', ct', _, R, rfl, HR5.out.tr, HF5.out, HBW.out.trans (HR5.out.upd.below (fun i hi => ?_) HBW.out.size), fun i hi => ?_⟩
      · rcases hi with rfl | rfl | hi | hi
        · omega
        · exact Nat.le_refl _
        · cases hi
        · cases hi
      · rcases hi with hi | hi
        · rcases HR5.out.own i hi with (rfl | rfl | h9 | h9) | h9
          · omega
          · exact Nat.le_refl _
          · cases h9
          · cases h9
          · exact Nat.le_trans HWS.out h9
        · exact hi.1
end Go.Proofs.Ytghfelfljblkbaa
