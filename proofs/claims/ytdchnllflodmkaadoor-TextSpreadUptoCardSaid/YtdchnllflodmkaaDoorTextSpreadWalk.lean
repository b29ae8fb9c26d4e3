/- TextSpread: the walk. -/
import Derived.Test.YtdchnllflodmkaaDoorSame2
import Derived.Test.YtdchnllflodmkaaDoorRows
import Derived.OpenShut
import Derived.ShutString
namespace Go.Proofs.YtdchnllflodmkaaDoor
open Go.RowKit Go.Shelf Go.Lib
set_option linter.unusedVariables false

theorem bl_one (s : ByteArray) (i : Nat) (h : i < s.size) : bl (s.extract i (i + 1)) = [(bl s)[i]'h] := by
  rw [bl_part, show i + 1 - i = 1 by omega, List.drop_eq_getElem_cons (show i < (bl s).length from h)]
  rfl
/-- The wide text as far as a place. -/
def WideTo (g s : ByteArray) (i : Nat) (x : ByteArray) : Prop := bl x = bl g ++ wd (bl g) ((bl s).take i)
theorem WideTo.start (g s : ByteArray) : WideTo g s 0 g := by unfold WideTo; simp [wd]
theorem take_at (s : ByteArray) (i : Nat) (h : i < s.size) : (bl s).take (i + 1) = (bl s).take i ++ [(bl s)[i]'h] := List.take_succ_eq_append_getElem h
theorem WideTo.ink {g s x : ByteArray} {i : Nat} (h : WideTo g s i x) (hi : i < s.size) (hw : wB (byteAt s i) = false) : WideTo g s (i + 1) (x ++ s.extract i (i + 1)) := by
  unfold WideTo at *
  have e : wU ((bl s)[i]'hi) = false := (congrArg wB (bl_get s i hi)).trans hw
  rw [bl_app, h, bl_one s i hi, take_at s i hi, wd_snoc, e, if_neg (by decide), List.append_assoc]
theorem WideTo.white {g s x : ByteArray} {i : Nat} (h : WideTo g s i x) (hi : i < s.size) (hw : wB (byteAt s i) = true) : WideTo g s (i + 1) (x ++ s.extract i (i + 1) ++ g) := by
  unfold WideTo at *
  have e : wU ((bl s)[i]'hi) = true := (congrArg wB (bl_get s i hi)).trans hw
  rw [bl_app, bl_app, h, bl_one s i hi, take_at s i hi, wd_snoc, e, if_pos rfl]
  simp only [List.append_assoc, List.cons_append, List.nil_append]
theorem WideTo.words {g s x : ByteArray} (h : WideTo g s s.size x) (hg : White (bl g)) : wordsOf (x ++ g) = wordsOf s := by
  unfold WideTo at h
  refine words_eq ?_
  rw [bl_app, wl_white_tail _ hg, h, wl_white_head _ _ hg, wl_wd _ hg, List.take_of_length_le (by rw [bl_len]; exact Nat.le_refl _)]
theorem gap_trim {g s : ByteArray} (hg : White (bl g)) : trimB (g ++ s ++ g) = trimB s := by
  refine trim_eq ?_
  rw [bl_app, bl_app]
  exact (trimB_is s).wide hg hg
theorem White.gap {g : ByteArray} (h : White (bl g)) : White (bl (g ++ ⟨#[32, 9]⟩)) := by
  rw [bl_app]
  intro c hc
  rcases List.mem_append.1 hc with hc | hc
  · exact h c hc
  · have : c = 32 ∨ c = 9 := by simpa [bl] using hc
    rcases this with rfl | rfl <;> rfl
theorem word_size {s x : ByteArray} (h : x ∈ wordsOf s) : x.size ≤ s.size := by
  unfold wordsOf at h
  obtain ⟨q, _, rfl⟩ := List.mem_map.1 h
  rw [ByteArray.size_extract]; omega
set_option maxRecDepth 100000 in
set_option maxHeartbeats 1000000 in
theorem textSpread_any (s : ByteArray) (m : Int) (w : World) (hT : Lib.Utf8Tabs 0 1 w) (hs : s.size ≤ 1048576) :
    Calls Tryd.prog 8 #[.string s, .int .i64 m] w fun e w' => e = .returned (.bool true) ∧ Below w.heap.size w w' := by
  have HT := Lib.hid hT
  clear hT
  obtain ⟨k, hk, hk5⟩ := small_k m 5 (by omega) (by omega)
  have hk' : (IntKind.u64.wrap m).tmod 5 = (k : Int) := hk
  clear hk
  go_enter Tryd.func8, Tryd.ntmps8
  obtain ⟨wo, rfl⟩ : ∃ wo : World, wo = w := ⟨_, rfl⟩
  go_wp2
  clear hk'
  go_loopw [5, 15] (fun v p wr => ∃ (g : ByteArray) (i : Nat), v = .string g ∧ p = .int .u64 i ∧ wr = wo ∧ Hid (White (bl g)) ∧ i ≤ k ∧ g.size = 2 * i) (fun _ p _ => k - (match p with | .int _ a => a.toNat | _ => 0))
  case atStart => exact ⟨_, 0, rfl, rfl, rfl, Lib.hid (fun c h => by cases h), Nat.zero_le _, rfl⟩
  case round =>
    obtain ⟨g, i, rfl, rfl, rfl, HG, hik, hgs⟩ := hrel
    by_cases hlt : i < k
    · have HG2 := Lib.hid HG.out.gap
      go_wp2
      refine ⟨⟨g ++ ⟨#[32, 9]⟩, i + 1, rfl, by go_num, by first | rfl | trivial, HG2, by omega, ?_⟩, ?_⟩
      · rw [app_size]
        show g.size + 2 = _
        omega
      · show k - ((i : Int) + 1).toNat < k - (i : Int).toNat
        omega
    · obtain ⟨wo, rfl⟩ : ∃ wo : World, wo = wr := ⟨_, rfl⟩
      go_wp2
      go_loopw [6, 23] (fun v p wr => ∃ (x : ByteArray) (j : Nat), v = .string x ∧ p = .int .i64 j ∧ wr = wo ∧ Hid (WideTo g s j x) ∧ j ≤ s.size ∧ x.size ≤ 8 + 9 * j) (fun _ p _ => s.size - (match p with | .int _ a => a.toNat | _ => 0))
      case atStart => exact ⟨g, 0, rfl, rfl, rfl, Lib.hid (WideTo.start g s), Nat.zero_le _, by omega⟩
      case round =>
        obtain ⟨x, j, rfl, rfl, rfl, HX, hjs, hxs⟩ := hrel
        have hj63 : j < 4294967297 := by omega
        have hext : (s.extract j (j + 1)).size ≤ 1 := by rw [ByteArray.size_extract]; omega
        have hz1 := app_size x (s.extract j (j + 1))
        have hz2 := app_size (x ++ s.extract j (j + 1)) g
        by_cases hjt : j < s.size
        · by_cases h32 : byteAt s j = 32
          · have HX2 := Lib.hid (HX.out.white hjt (wB_yes (.inl h32)))
            have q1 : (((s[j]'hjt).toNat : Int) == 32) = true := beq_iff_eq.2 (by rw [← byteAt_get s j hjt]; omega)
            clear h32
            go_wp2
            refine ⟨⟨_, j + 1, rfl, by go_num, by first | rfl | trivial, HX2, by omega, by omega⟩, ?_⟩
            show s.size - ((j : Int) + 1).toNat < s.size - (j : Int).toNat
            omega
          · have q1 : (((s[j]'hjt).toNat : Int) == 32) = false := beq_eq_false_iff_ne.2 (by rw [← byteAt_get s j hjt]; omega)
            by_cases h9 : byteAt s j = 9
            · have HX2 := Lib.hid (HX.out.white hjt (wB_yes (.inr h9)))
              have q2 : (((s[j]'hjt).toNat : Int) == 9) = true := beq_iff_eq.2 (by rw [← byteAt_get s j hjt]; omega)
              clear h32 h9
              go_wp2
              refine ⟨⟨_, j + 1, rfl, by go_num, by first | rfl | trivial, HX2, by omega, by omega⟩, ?_⟩
              show s.size - ((j : Int) + 1).toNat < s.size - (j : Int).toNat
              omega
            · have HX2 := Lib.hid (HX.out.ink hjt (wB_no ⟨h32, h9⟩))
              have q2 : (((s[j]'hjt).toNat : Int) == 9) = false := beq_eq_false_iff_ne.2 (by rw [← byteAt_get s j hjt]; omega)
              clear h32 h9
              go_wp2
              refine ⟨⟨_, j + 1, rfl, by go_num, by first | rfl | trivial, HX2, by omega, by omega⟩, ?_⟩
              show s.size - ((j : Int) + 1).toNat < s.size - (j : Int).toNat
              omega
        · have ej : j = s.size := by omega
          subst ej
          have h1 := fun W => Words_any s W (by omega)
          have hws := words_len s
          have hone : ∀ x ∈ wordsOf s, ∀ W, Calls Tryd.prog 20 #[.string x] W fun e w' => ∃ v, e = .returned v ∧ Texts W.heap.size w' v [x] ∧ Below W.heap.size W w' := fun x hx W => by
            have := Words_any x W (by have := word_size hx; omega)
            rwa [(word_one hx).1] at this
          obtain ⟨l, hll⟩ : ∃ l, l = wordsOf s := ⟨_, rfl⟩
          obtain ⟨y, hyy⟩ : ∃ y, y = x ++ g := ⟨_, rfl⟩
          have hy := app_size x g
          obtain ⟨z, hzz⟩ : ∃ z, z = g ++ s ++ g := ⟨_, rfl⟩
          have hz := app_size (g ++ s) g
          have hz' := app_size g s
          have h2 := fun W => Words_any y W (by rw [hyy]; omega)
          rw [hyy, HX.out.words HG.out] at h2
          obtain ⟨t, htt⟩ : ∃ t, t = trimB s := ⟨_, rfl⟩
          have h3 := fun W hT => Trim_any z W (by rw [hzz]; omega) hT
          rw [hzz, gap_trim HG.out] at h3
          have h4 := fun W hT => Trim_any s W (by omega) hT
          rw [← hll] at h1 h2 hone hws
          rw [← htt] at h3 h4
          have H1 := Lib.hid h1
          have H2 := Lib.hid h2
          have H3 := Lib.hid h3
          have H4 := Lib.hid h4
          have HO := Lib.hid hone
          have HS := Lib.hid (fun (W : World) (v1 v2 : Value) (x1 : TextsAt W v1 l) (x2 : TextsAt W v2 l) => SameTexts_any l v1 v2 W x1 x2 (by omega))
          have hq : (t.toList == t.toList) = true := same_text t
          have hl63 : l.length < 4294967297 := by omega
          clear h1 h2 h3 h4 hone hll htt hyy hzz hz hz' hy hws hz1 hz2 hext
          go_wp2_with fail
          go_at_call 20
          refine (H1.out _).mono ?_
          rintro e w1 ⟨v1, rfl, hx1, hb1⟩
          have HV1 := Lib.hid hx1.at
          obtain ⟨ao, cap, rfl, hc1⟩ := hx1.at
          have HC1 := Lib.hid hc1
          clear hx1 hc1
          go_wp2_with fail
          go_loopw [51] (fun p wr => ∃ i : Nat, p = .int .i64 i ∧ Hid (Below w1.heap.size w1 wr) ∧ i ≤ l.length) (fun p _ => l.length - (match p with | .int _ a => a.toNat | _ => 0))
          case atStart => exact ⟨0, rfl, Lib.hid (Below.refl _ _), Nat.zero_le _⟩
          case round =>
            obtain ⟨i, rfl, HB, hil⟩ := hrel
            have hi63 : i < 4294967297 := by omega
            by_cases hlt2 : i < l.length
            · obtain ⟨g1, rfl, e1⟩ := HC1.out i hlt2
              have k1 : wr.cell? ⟨g1, i, none⟩ = some (.string l[i]) := (HB.out.cell (World.block_lt_of_cell? w1 _ e1)).trans e1
              have HM := Lib.hid (List.getElem_mem hlt2)
              have hq2 : (l[i].toList == l[i].toList) = true := same_text _
              clear e1
              go_wp2_with fail
              go_at_call 20
              refine (HO.out _ HM.out _).mono ?_
              rintro e w2 ⟨v2, rfl, hx2, hb2⟩
              have HB2 := Lib.hid (HB.out.trans (hb2.mono HB.out.size))
              obtain ⟨ao2, cap2, rfl, hc2⟩ := hx2.at
              obtain ⟨g2, rfl, e2⟩ := hc2 0 (by simp)
              have k2 : w2.cell? ⟨g2, 0, none⟩ = some (.string l[i]) := e2
              clear hc2 e2 hx2 hb2 k1
              go_wp2_with fail
              refine ⟨⟨i + 1, by go_num, Lib.hid HB2.out, by omega⟩, ?_⟩
              show l.length - ((i : Int) + 1).toNat < l.length - (i : Int).toNat
              omega
            · have HBW := Lib.hid (hb1.trans (HB.out.mono hb1.size))
              have HV1' := Lib.hid (HV1.out.later HB.out)
              go_wp2_with fail
              go_at_call 20
              refine (H2.out _).mono ?_
              rintro e w3 ⟨v3, rfl, hx3, hb3⟩
              have HV3 := Lib.hid hx3.at
              have HV1'' := Lib.hid (HV1'.out.later hb3)
              have hb3' := HBW.out.trans (hb3.mono HBW.out.size)
              go_wp2_with fail
              go_at_call 19
              refine (HS.out _ _ _ HV3.out HV1''.out).mono ?_
              rintro e w4 ⟨rfl, hb4⟩
              have hb4' := hb3'.trans (hb4.mono hb3'.size)
              go_wp2_with fail
              go_at_call 22
              refine (H3.out _ (tabs_later HT.out hb4')).mono ?_
              rintro e w5 ⟨rfl, hb5⟩
              have hb5' := hb4'.trans (hb5.mono hb4'.size)
              go_wp2_with fail
              go_at_call 22
              refine (H4.out _ (tabs_later HT.out hb5')).mono ?_
              rintro e w6 ⟨rfl, hb6⟩
              have hb6' := hb5'.trans (hb6.mono hb5'.size)
              go_wp2_with fail
              go_at_call 14
              refine (awake4_any _ (tabs_later HT.out hb6')).mono ?_
              rintro e w7 ⟨rfl, hb7⟩
              go_wp2_with fail
              go_ret
              exact ⟨rfl, hb6'.trans (hb7.mono hb6'.size)⟩
section
open Go.ChangeShapes Go.WideShapes Go.ChangeAt Go.ChangeMaps
theorem textSpread_walk {H : Type} {enc : TypeId × Value → H} (W : World) {base : Nat} (v0 v1 : Value) {d0 d1 : DataW H} {p0 p1 : List MemPlace} (h0 : DataW.Trod enc Tryd.prog W 0 (fun _ => true) true 9 v0 d0 p0) (o0 : Value.okWide Tryd.prog W .any base 9 v0)
    (h1 : DataW.Trod enc Tryd.prog W 0 (fun _ => true) true 3 v1 d1 p1) (o1 : Value.okWide Tryd.prog W .any base 3 v1)
    (hT : Lib.Utf8Tabs 0 1 W) (hk : Rows.uptoBulkAll [d0, d1] ≤ 1048576) :
    Calls Tryd.prog 8 #[v0, v1] W fun e w' => e = .returned (.bool true) ∧ Below W.heap.size W w' := by
  obtain ⟨s, rfl, rfl, rfl, ws⟩ := open_string Tryd.underlying9 o0 h0
  obtain ⟨n, rfl, rfl, rfl, wn⟩ := open_int Tryd.underlying3 o1 h1
  have e1 : s.size = s.data.toList.length := rfl
  simp only [Rows.uptoBulkAll, Rows.uptoBulk] at hk
  exact textSpread_any s n W hT (by omega)
end
end Go.Proofs.YtdchnllflodmkaaDoor
