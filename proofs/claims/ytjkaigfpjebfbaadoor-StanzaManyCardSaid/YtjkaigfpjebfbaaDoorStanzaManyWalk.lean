/- StanzaMany: the walk. -/
import Derived.Test.YtjkaigfpjebfbaaDoorSt20
import Derived.Test.YtjkaigfpjebfbaaDoorStanzaParsesWalk
import Derived.Test.YtjkaigfpjebfbaaDoorSA1
import Derived.Test.YtjkaigfpjebfbaaDoorOpen
import Derived.Test.YtjkaigfpjebfbaaDoorB9
import Derived.Deep.CutRange
namespace Go.Proofs.YtjkaigfpjebfbaaDoor
open Go.RowKit Go.Shelf Go.Lib
set_option linter.unusedVariables false

theorem manyF_snoc (i : Nat) : manyF (i + 1) = manyF i ++ mF i := by unfold manyF; rw [List.range_succ, List.flatMap_append]; simp
theorem manyS_snoc (i : Nat) : manyS (i + 1) = manyS i ++ [120, 58, 32, 49, 10, 10] := by unfold manyS; rw [List.range_succ, List.flatMap_append]; simp
theorem manyF_len (i : Nat) : (manyF i).length = 5 * i := by
  induction i with
  | zero => rfl
  | succ i ih => rw [manyF_snoc, List.length_append, ih]; show 5 * i + 5 = _; omega
theorem manyS_len (i : Nat) : (manyS i).length = 6 * i := by
  induction i with
  | zero => rfl
  | succ i ih => rw [manyS_snoc, List.length_append, ih]; show 6 * i + 6 = _; omega
theorem manyF_lt (i : Nat) : i < 4000 → ∀ x ∈ manyF i, x < 256 := by
  induction i with
  | zero => intro _ x hx; cases hx
  | succ i ih =>
    intro h x hx
    rw [manyF_snoc] at hx
    rcases List.mem_append.1 hx with hx | hx
    · exact ih (by omega) x hx
    · unfold mF at hx
      simp only [List.mem_cons, List.not_mem_nil, or_false] at hx
      omega
theorem manyS_lt (i : Nat) : ∀ x ∈ manyS i, x < 256 := by
  induction i with
  | zero => intro x hx; cases hx
  | succ i ih =>
    intro x hx
    rw [manyS_snoc] at hx
    rcases List.mem_append.1 hx with hx | hx
    · exact ih x hx
    · simp only [List.mem_cons, List.not_mem_nil, or_false] at hx
      omega
theorem add_none5 (b o j : Nat) : (⟨b, o, none⟩ : Addr).add j = ⟨b, o + j, none⟩ := by unfold Addr.add; split <;> simp_all
theorem reads_all {w : World} {g : Nat} {t : TypeId} {C : Array Value} {B : Nat} (h : Blk w g t C) (hB : g < B) (n : Nat) (l : List Value) (hn : l.length = n) (hl : C.toList = l) : Reads w B 1 (some ⟨g, 0, none⟩) n l :=
  ⟨by rw [hn, Nat.mul_one], fun _ => ⟨_, rfl, hB, fun j u hj => by
    rw [add_none5, Nat.zero_add, h.cell j, ← Array.getElem?_toList, hl]
    exact hj⟩⟩
def encL (l : List Nat) : List Value := l.map fun x => .int .u8 ((x : Nat) : Int)
theorem own_bytes {w : World} {k : Nat} {v : Value} {l : List Nat} (h : w.ownsRow k 5 1 v l.length (encL l)) (hl : ∀ x ∈ l, x < 256) : ∃ A c, v = .slice A l.length c ∧ l.length ≤ c ∧ Bytes w A l.length l := by
  obtain ⟨A, c, rfl⟩ := own_shape h
  refine ⟨A, c, rfl, own_cap h, rfl, hl, fun h0 => ?_⟩
  obtain ⟨g, cap, hv, _, hlt⟩ := h.form h0
  injection hv with hv _ _
  subst hv
  refine ⟨g, 0, rfl, hlt, fun k hk => ?_⟩
  rw [Nat.zero_add, h.cellAt k (by omega)]
  unfold encL
  rw [List.getElem?_map, List.getD_eq_getElem?_getD, List.getElem?_eq_getElem hk]
  rfl
set_option maxRecDepth 100000 in
set_option maxHeartbeats 4000000 in
theorem stanzaMany_any (m : Int) (fl : Bool) (w : World) (hT : Lib.Utf8Tabs 0 1 w) (hM : MaxLenAt w) :
    Calls Tryd.prog 5 #[.int .i64 m, .bool fl] w fun e w' => e = .returned (.bool true) ∧ Below w.heap.size w w' := by
  obtain ⟨N, hN, hN4⟩ := small_k m 4 (by decide) (by decide)
  have hN : (IntKind.u64.wrap m).tmod 4 = (N : Int) := hN
  have hw : IntKind.i64.wrap (N : Int) = (N : Int) := IntWalk.i64_in _ (by omega)
  obtain ⟨i0, hi0, hz0, hz1, hz2⟩ := info_parts u8_row
  obtain ⟨L, hL⟩ : ∃ L, L = (if fl then manyF (38 + N) else manyS (198 + N)) := ⟨_, rfl⟩
  have HT := Lib.hid hT
  have HM := Lib.hid hM
  have HL := Lib.hid hL
  clear hT hM hL
  go_enter Tryd.func5, Tryd.ntmps5
  go_upto_if 15 with fail
  go_cut [5] from 16 to 39 (fun v wx => ∃ A c, v = .slice A L.length c ∧ Hid (L.length ≤ c ∧ Bytes wx A L.length L ∧ Below w.heap.size w wx))
  case first =>
    cases fl with
    | true =>
      go_wp2_with fail
      go_loopw [18, 5] (fun t u wr => ∃ i : Nat, t = .int .i64 (i : Int) ∧ i ≤ 38 + N ∧ Hid (wr.ownsRow w.heap.size 5 1 u (manyF i).length (encL (manyF i)) ∧ Below w.heap.size w wr)) (fun t _ _ => 38 + N - (match t with | .int _ x => x.toNat | _ => 0))
      case atStart => exact ⟨0, rfl, Nat.zero_le _, Lib.hid ⟨World.ownsRow_nil _ _ _ _, Below.refl _ _⟩⟩
      case round =>
        obtain ⟨i, rfl, hi, HI⟩ := hrel
        obtain ⟨uA, uc, rfl⟩ := own_shape HI.out.1
        have hlen := manyF_len i
        rw [hlen]
        by_cases hlt : i < 38 + N
        case neg =>
          have hln : ¬ (i : Int) < (38 : Int) + (N : Int) := by omega
          have HE : Hid (L = manyF i) := Lib.hid (by rw [HL.out]; show manyF (38 + N) = _; rw [show 38 + N = i by omega])
          go_wp2_with fail
          go_meet
          obtain ⟨A, c, e, h1, h2⟩ := own_bytes HI.out.1 (manyF_lt i (by omega))
          injection e with e1 _ e3
          subst e1 e3
          rw [HE.out]
          exact ⟨uA, uc, by rw [hlen], Lib.hid ⟨h1, h2, HI.out.2⟩⟩
        have hln : (i : Int) < (38 : Int) + (N : Int) := by omega
        have r1 : ((i : Int)).tmod 26 = ((i % 26 : Nat) : Int) := by rw [Int.tmod_eq_emod_of_nonneg (by omega)]; omega
        have r2 : ((i : Int)).tdiv 26 = ((i / 26 : Nat) : Int) := by rw [Int.tdiv_eq_ediv_of_nonneg (by omega)]; omega
        obtain ⟨ra, hra⟩ : ∃ r, r = i % 26 := ⟨_, rfl⟩
        obtain ⟨rb, hrb⟩ : ∃ r, r = i / 26 := ⟨_, rfl⟩
        rw [← hra] at r1
        rw [← hrb] at r2
        have ha : ra < 26 := by omega
        have hb : rb < 3 := by omega
        have w1 : IntKind.i64.wrap ((97 : Int) + (ra : Int)) = 97 + (ra : Int) := IntWalk.i64_in _ (by omega)
        have w2 : IntKind.i64.wrap ((97 : Int) + (rb : Int)) = 97 + (rb : Int) := IntWalk.i64_in _ (by omega)
        have w3 : IntKind.u8.wrap ((97 : Int) + (ra : Int)) = 97 + (ra : Int) := by show (97 + (ra : Int)) % 256 = _; omega
        have w4 : IntKind.u8.wrap ((97 : Int) + (rb : Int)) = 97 + (rb : Int) := by show (97 + (rb : Int)) % 256 = _; omega
        have HE : Hid (encL (manyF (i + 1)) = encL (manyF i) ++ [.int .u8 102, .int .u8 (97 + (ra : Int)), .int .u8 (97 + (rb : Int)), .int .u8 58, .int .u8 10]) := Lib.hid (by
          rw [manyF_snoc]
          unfold encL
          rw [List.map_append, hra, hrb]
          show _ ++ [Value.int .u8 102, .int .u8 ((97 + i % 26 : Nat) : Int), .int .u8 ((97 + i / 26 : Nat) : Int), .int .u8 58, .int .u8 10] = _
          rw [Int.natCast_add, Int.natCast_add]
          rfl)
        have HOW : Hid (wr.ownsRow w.heap.size 5 1 (.slice uA (5 * i) uc) (5 * i) (encL (manyF i))) := Lib.hid (by rw [← hlen]; exact HI.out.1)
        clear hra hrb
        have hbw : w.heap.size ≤ wr.heap.size := HI.out.2.size
        go_wp2_with (at_builtin; refine wpList_append_any _ rfl (.tmp 21) (.tmp 30) 22 rfl w.heap.size 5 i0 (.int .u8 0) 1 1 Tryd.underlying22 hi0 hz0 hz1 hz2 rfl (by decide) (.slice uA (5 * i) uc) (5 * i) (encL (manyF i)) rfl (HOW.out.alloc _) (wr.heap.size + 1) (some ⟨wr.heap.size, 0, none⟩) 5 5 [.int .u8 102, .int .u8 (97 + (ra : Int)), .int .u8 (97 + (rb : Int)), .int .u8 58, .int .u8 10] rfl (reads_all (Blk.new wr _ _) (by omega) 5 _ rfl rfl) (fun u hu => by simp at hu; rcases hu with rfl | rfl | rfl | rfl | rfl <;> rfl) (by unfold maxLen; omega) (by omega) (Nat.le_trans hbw (by simp)) ?_; intro v5 w5 hown5 hg5 hat5; have HG5 := Lib.hid (((HI.out.2).alloc hbw _).grown hg5 (Nat.le_trans hbw (by simp)) (fun k hk => (own_is HOW.out hk).1)); have HW5 := Lib.hid hown5; clear hown5 hg5 hat5)
        refine ⟨⟨i + 1, by go_num, by omega, Lib.hid ⟨?_, HG5.out⟩⟩, ?_⟩
        · rw [HE.out, manyF_len]
          exact HW5.out
        · show 38 + N - ((i : Int) + 1).toNat < 38 + N - (i : Int).toNat
          omega
    | false =>
      go_wp2_with fail
      go_loopw [35, 5] (fun t u wr => ∃ i : Nat, t = .int .i64 (i : Int) ∧ i ≤ 198 + N ∧ Hid (wr.ownsRow w.heap.size 5 1 u (manyS i).length (encL (manyS i)) ∧ Below w.heap.size w wr)) (fun t _ _ => 198 + N - (match t with | .int _ x => x.toNat | _ => 0))
      case atStart => exact ⟨0, rfl, Nat.zero_le _, Lib.hid ⟨World.ownsRow_nil _ _ _ _, Below.refl _ _⟩⟩
      case round =>
        obtain ⟨i, rfl, hi, HI⟩ := hrel
        obtain ⟨uA, uc, rfl⟩ := own_shape HI.out.1
        have hlen := manyS_len i
        rw [hlen]
        by_cases hlt : i < 198 + N
        case neg =>
          have hln : ¬ (i : Int) < (198 : Int) + (N : Int) := by omega
          have HE : Hid (L = manyS i) := Lib.hid (by rw [HL.out]; show manyS (198 + N) = _; rw [show 198 + N = i by omega])
          go_wp2_with fail
          go_meet
          obtain ⟨A, c, e, h1, h2⟩ := own_bytes HI.out.1 (manyS_lt i)
          injection e with e1 _ e3
          subst e1 e3
          rw [HE.out]
          exact ⟨uA, uc, by rw [hlen], Lib.hid ⟨h1, h2, HI.out.2⟩⟩
        have hln : (i : Int) < (198 : Int) + (N : Int) := by omega
        have HE : Hid (encL (manyS (i + 1)) = encL (manyS i) ++ Lib.strCells ⟨#[120, 58, 32, 49, 10, 10]⟩) := Lib.hid (by
          rw [manyS_snoc]
          unfold encL
          rw [List.map_append]
          congr 1)
        have HOW : Hid (wr.ownsRow w.heap.size 5 1 (.slice uA (6 * i) uc) (6 * i) (encL (manyS i))) := Lib.hid (by rw [← hlen]; exact HI.out.1)
        have hbw : w.heap.size ≤ wr.heap.size := HI.out.2.size
        go_wp2_with (at_builtin; refine Lib.wpList_append_own_string _ rfl (.tmp 37) (.const (.string ⟨#[120, 58, 32, 49, 10, 10]⟩)) 22 9 rfl w.heap.size 5 i0 Tryd.underlying22 Tryd.underlying9 hi0 hz0 hz1 hz2 (.slice uA (6 * i) uc) (6 * i) (encL (manyS i)) rfl HOW.out ⟨#[120, 58, 32, 49, 10, 10]⟩ rfl (by show 6 * i + 6 ≤ _; unfold maxLen; omega) (by show 6 * i + 6 ≤ _; omega) hbw ?_; intro v5 w5 hown5 hg5 _; have HG5 := Lib.hid ((HI.out.2).grown hg5 hbw (fun k hk => (own_is HOW.out hk).1)); have HW5 := Lib.hid hown5; clear hown5 hg5)
        refine ⟨⟨i + 1, by go_num, by omega, Lib.hid ⟨?_, HG5.out⟩⟩, ?_⟩
        · rw [HE.out, manyS_len]
          exact HW5.out
        · show 198 + N - ((i : Int) + 1).toNat < 198 + N - (i : Int).toNat
          omega
  case rest =>
    obtain ⟨A, c, rfl, HR⟩ := hcut
    rename World => wc
    have hlen : L.length ≤ 1206 := by
      rw [HL.out]
      cases fl with
      | true => show (manyF (38 + N)).length ≤ _; rw [manyF_len]; omega
      | false => show (manyS (198 + N)).length ≤ _; rw [manyS_len]; omega
    have herr : (errS (parseS (toS L))).1 = if 2 < N then 12 else 0 := by
      rw [HL.out]
      cases fl with
      | true => exact manyF_err N hN4
      | false => exact manyS_err N hN4
    have hlim := parse_lim (toS L)
    have hTc := tabs_later HT.out HR.out.2.2
    have hMc := HM.out.later HR.out.2.2
    have HL1 := Lib.hid (Parse_any A L.length c L wc HR.out.2.1 (by omega) hTc hMc)
    have HL2 := Lib.hid (fun W (hW : Below wc.heap.size wc W) => Stanzas_any A L.length c L W (HR.out.2.1.below hW) HR.out.1 (by omega))
    obtain ⟨M, hM2⟩ : ∃ M, M = gotS (parseS (toS L)) := ⟨_, rfl⟩
    obtain ⟨q, hq⟩ : ∃ q, q = errS (parseS (toS L)) := ⟨_, rfl⟩
    obtain ⟨x, y⟩ := q
    rw [← hq] at herr
    have HERR : Hid (x = if 2 < N then 12 else 0) := Lib.hid herr
    clear herr
    rw [← hM2] at hlim
    simp only [← hM2, ← hq] at HL1 HL2
    have HSM := Lib.hid (fun (W : World) (v1 v2 : Value) (x1 : StzAt W v1 M) (x2 : StzAt W v2 M) => SameStanzas_any true v1 v2 M M W x1 x2 (SameL.refl true M) (by have := hlim.1; omega) (fun s hs => ⟨by have := (hlim.2 s hs).1; omega, fun f hf => by have := (hlim.2 s hs).2 f hf; omega⟩))
    have HAW := Lib.hid (fun W (hW : Below wc.heap.size wc W) => awake_any W (tabs_later hTc hW) (hMc.later hW))
    obtain ⟨ll, hll⟩ : ∃ ll, ll = L.length := ⟨_, rfl⟩
    rw [← hll] at HL1 HL2 ⊢
    have HBC := Lib.hid HR.out.2.2
    clear hTc hMc hM2 hq hlim hlen hll HR HL hi0 hz0 hz1 hz2 hN hw
    go_wp2_with fail
    go_at_call 11
    refine (HL1.out).mono ?_
    rintro e w1 ⟨v1, rfl, ht1, hb1⟩
    have HT1 := Lib.hid ht1
    clear ht1
    obtain ⟨W1, hW1⟩ : ∃ W1, W1 = w1.alloc (Obj.cells #[Value.int IntKind.i64 x, Value.int IntKind.i64 (y : Int)] 26) := ⟨_, rfl⟩
    have HB1 : Hid (Below w1.heap.size w1 W1) := Lib.hid (by rw [hW1]; exact (Below.refl _ _).alloc (Nat.le_refl _) _)
    have HK1 : Hid (Blk W1 w1.heap.size 26 #[Value.int IntKind.i64 x, Value.int IntKind.i64 (y : Int)]) := Lib.hid (by rw [hW1]; exact Blk.new _ _ _)
    have HBW1 := Lib.hid (hb1.trans (HB1.out.mono hb1.size))
    have HP1 := Lib.hid (HT1.out.below HB1.out)
    go_wp2_with fail
    rw [← hW1]
    clear hW1
    go_at_call 12
    refine (HL2.out _ HBW1.out).mono ?_
    rintro e w2 ⟨v2, rfl, ht2, hb2⟩
    have HT2 := Lib.hid ht2
    clear ht2
    obtain ⟨W2, hW2⟩ : ∃ W2, W2 = w2.alloc (Obj.cells #[Value.int IntKind.i64 x, Value.int IntKind.i64 (y : Int)] 26) := ⟨_, rfl⟩
    have HB2 : Hid (Below w2.heap.size w2 W2) := Lib.hid (by rw [hW2]; exact (Below.refl _ _).alloc (Nat.le_refl _) _)
    have HK2 : Hid (Blk W2 w2.heap.size 26 #[Value.int IntKind.i64 x, Value.int IntKind.i64 (y : Int)]) := Lib.hid (by rw [hW2]; exact Blk.new _ _ _)
    have HB12 := Lib.hid (hb2.trans (HB2.out.mono hb2.size))
    have HP2 := Lib.hid (HP1.out.below HB12.out)
    have HQ2 := Lib.hid (HT2.out.below HB2.out)
    have HJ1 : Hid (Blk W2 w1.heap.size 26 #[Value.int IntKind.i64 x, Value.int IntKind.i64 (y : Int)]) := Lib.hid (HK1.out.below HB12.out HK1.out.lt)
    have HBW2 := Lib.hid (HBW1.out.trans (HB12.out.mono HBW1.out.size))
    go_wp2_with fail
    rw [← hW2]
    clear hW2
    go_at_call 13
    refine (HSM.out _ _ _ HP2.out HQ2.out).mono ?_
    rintro e w3 ⟨rfl, hb3⟩
    have HBW3 := Lib.hid (HBW2.out.trans (hb3.mono HBW2.out.size))
    have k1 := HJ1.out.below hb3 HJ1.out.lt
    have k2 := HK2.out.below hb3 HK2.out.lt
    have c1 : w3.cell? ⟨w1.heap.size, 0, none⟩ = some (.int .i64 x) := k1.cell 0
    have c2 : w3.cell? ⟨w1.heap.size, 1, none⟩ = some (.int .i64 (y : Int)) := k1.cell 1
    have c3 : w3.cell? ⟨w2.heap.size, 0, none⟩ = some (.int .i64 x) := k2.cell 0
    have c4 : w3.cell? ⟨w2.heap.size, 1, none⟩ = some (.int .i64 (y : Int)) := k2.cell 1
    clear k1 k2 hb1 hb2 hb3
    by_cases h2 : 2 < N
    · have herr := HERR.out
      rw [if_pos h2] at herr
      have h2' : (2 : Int) < (N : Int) := by omega
      subst herr
      clear h2 HERR
      go_wp2_with fail
      go_at_call 14
      refine (HAW.out _ HBW3.out).mono ?_
      rintro e w6 ⟨rfl, hb6⟩
      go_wp2_with fail
      go_ret
      exact ⟨rfl, HBC.out.trans ((HBW3.out.trans (hb6.mono HBW3.out.size)).mono HBC.out.size)⟩
    · have herr := HERR.out
      rw [if_neg h2] at herr
      have h2' : ¬ (2 : Int) < (N : Int) := by omega
      subst herr
      clear h2 HERR
      go_wp2_with fail
      go_at_call 14
      refine (HAW.out _ HBW3.out).mono ?_
      rintro e w6 ⟨rfl, hb6⟩
      go_wp2_with fail
      go_ret
      exact ⟨ret_bool (a := !decide ((2 : Int) < (N : Int))) (by rw [decide_eq_false (by omega)]; rfl), HBC.out.trans ((HBW3.out.trans (hb6.mono HBW3.out.size)).mono HBC.out.size)⟩
section
open Go.ChangeShapes Go.WideShapes Go.ChangeAt Go.ChangeMaps
set_option maxRecDepth 100000 in
theorem stanzaMany_walk {H : Type} {enc : TypeId × Value → H} (W : World) {base : Nat} (v0 v1 : Value) {d0 d1 : DataW H} {p0 p1 : List MemPlace}
    (h0 : DataW.Trod enc Tryd.prog W 0 (fun _ => true) true 3 v0 d0 p0) (o0 : Value.okWide Tryd.prog W .any base 3 v0)
    (h1 : DataW.Trod enc Tryd.prog W 0 (fun _ => true) true 4 v1 d1 p1) (o1 : Value.okWide Tryd.prog W .any base 4 v1)
    (hT : Lib.Utf8Tabs 0 1 W) (hS : W.ShapedOpen Tryd.prog) :
    Calls Tryd.prog 5 #[v0, v1] W fun e w' => e = .returned (.bool true) ∧ Below W.heap.size W w' := by
  obtain ⟨m, rfl, rfl, rfl, w1⟩ := open_int Tryd.underlying3 o0 h0
  obtain ⟨b, rfl, rfl, rfl⟩ := open_bool Tryd.underlying4 o1 h1
  exact stanzaMany_any m b W hT (MaxLenAt.of hS)
end
end Go.Proofs.YtjkaigfpjebfbaaDoor
