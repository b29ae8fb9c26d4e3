/- chandlerlaw14, chandlerlaw15: both. -/
import Derived.Test.YtghfelfljblkbaaNewT
import Derived.Test.YtghfelfljblkbaaBoth
namespace Go.Proofs.Ytghfelfljblkbaa
open Go.RowKit Go.Sort
set_option linter.unusedVariables false

/-- The clauses that 'both' adds. -/
def bothQ (lim mx n : Nat) : List (List Int) → Nat → List (List Int) → List (List Int)
  | [], _, acc => acc
  | c :: r, i, acc => bothQ lim mx n r (i + 1) (if i < lim ∧ c.length ≤ mx then addL n acc c else acc)
theorem may_cl {n : Nat} {L : List (List Int)} {zs : List Int} (hz : ∀ z ∈ zs, Ok z) (h : mayL n L zs = true) : ∀ z ∈ zs, 1 ≤ Cf.va z ∧ Cf.va z ≤ n := fun z hm => by
  unfold mayL at h
  have h2 := ((Bool.and_eq_true _ _).mp h).2
  have h3 : zs.any (offL n) = false := by simpa using h2
  rw [List.any_eq_false] at h3
  have h4 := h3 z hm
  have h5 : offL n z = false := by simpa using h4
  unfold offL at h5
  rw [vw_ok (hz z hm), Bool.or_eq_false_iff, decide_eq_false_iff_not, decide_eq_false_iff_not] at h5
  unfold Cf.va at *
  omega
theorem add_cl {n : Nat} {L : List (List Int)} {zs : List Int} (hL : Pr.Cl n L) (hz : ∀ z ∈ zs, Ok z) : Pr.Cl n (addL n L zs) := by
  unfold addL
  by_cases hm : mayL n L zs = true
  · rw [if_pos hm]
    cases ht : Cf.tidy zs with
    | none => exact hL
    | some r =>
      intro c hc y hy
      rcases List.mem_append.1 hc with h | h
      · exact hL c h y hy
      · rw [List.mem_singleton.1 h] at hy
        exact may_cl hz hm y (((Cf.tidy_good ht).mem y).1 hy)
  · rw [if_neg hm]; exact hL
theorem both_cl (lim mx n : Nat) : ∀ (Z : List (List Int)) (i : Nat) (acc : List (List Int)), (∀ c ∈ Z, ∀ z ∈ c, Ok z) → Pr.Cl n acc → Pr.Cl n (bothQ lim mx n Z i acc)
  | [], i, acc, _, h => h
  | c :: r, i, acc, hz, h => by
    unfold bothQ
    refine both_cl lim mx n r (i + 1) _ (fun d hd => hz d (List.mem_cons_of_mem _ hd)) ?_
    split
    · exact add_cl h (hz c (by simp))
    · exact h
theorem cls_ok {w : World} {v : Value} {Z : List (List Int)} (h : ClsAt w v Z) : ∀ c ∈ Z, ∀ z ∈ c, Ok z := by
  intro c hc
  obtain ⟨_, _, _, _, _, hrow⟩ := h
  obtain ⟨i, hi, rfl⟩ := List.mem_iff_getElem.1 hc
  obtain ⟨g, o, Aj, cj, _, _, _, _, hl⟩ := hrow i hi
  exact hl.2.1
set_option maxRecDepth 100000 in
set_option maxHeartbeats 2000000 in
theorem bothP_any (x : Int) (v : Value) (Z : List (List Int)) (w : World) (hz : ClsAt w v Z) (hZ : Z.length ≤ 4294967296) :
    Calls Try.prog 39 #[.int .i64 x, v] w fun e w' => ∃ n p q A B ca cb, e = .returned (.tuple #[.pointer (some ⟨p, 0, none⟩), .pointer (some ⟨q, 0, none⟩)]) ∧ n < 10 ∧ Two w w' p q A B ca cb n (bothQ 30 10 n Z 0 []) ∧ Pr.Cl n (bothQ 30 10 n Z 0 []) := by
  have HZ := Lib.hid hz
  have hz0 := hz
  obtain ⟨AZ, cZ, rfl, _, _, _⟩ := hz
  have HOK : Hid (∀ c ∈ Z, ∀ z ∈ c, Ok z) := Lib.hid (cls_ok hz0)
  clear hz0
  obtain ⟨n, hn, hx'⟩ := mod_un x (n := 10) (by omega)
  have hx : (IntKind.u64.wrap x).tmod 10 = (n : Int) := hx'
  have hvn : vars (n : Int) = n := by unfold vars; omega
  have HN := Lib.hid (New_any (n : Int) w)
  have HRN := Lib.hid (fun W => RNew_any (n : Int) W)
  rw [hvn] at HN HRN
  clear hx' hvn
  go_enter Try.func39, Try.ntmps39
  go_wp2_with fail
  go_at_call 29
  refine HN.out.mono ?_
  rintro e w1 ⟨p, rfl, hs1, hb1, hp⟩
  have HS1 := Lib.hid hs1
  have HB1 := Lib.hid hb1
  clear hs1 hb1 HN
  go_wp2_with fail
  go_at_call 34
  refine (HRN.out w1).mono ?_
  rintro e w2 ⟨q, rfl, hr2, hb2, hq⟩
  have hlo : ∀ k, sF p none k ∨ sF q none k → w.heap.size ≤ k := fun k hk => by
    rcases hk with (rfl | hk) | (rfl | hk)
    · exact hp
    · cases hk
    · exact Nat.le_trans HB1.out.size hq
    · cases hk
  have hne : ∀ k, sF p none k → ¬ sF q none k := fun k h1 h2 => by
    have hpl := HS1.out.blk.lt
    rcases h1 with rfl | h1
    · rcases h2 with rfl | h2
      · omega
      · cases h2
    · cases h1
  have htwo : Two w w2 p q none none 0 0 n [] := ⟨HS1.out.below hb2, hr2, HB1.out.trans (hb2.mono HB1.out.size), hlo, hne, fun c hc => by cases hc⟩
  have HT := Lib.hid htwo
  clear hr2 hb2 hq hp HS1 HB1 HRN htwo hlo hne
  go_wp2_with fail
  go_loopw [20] (fun t wr => ∃ (i : Nat) (A B : Option Addr) (ca cb : Nat) (L : List (List Int)), t = .int .i64 (i : Int) ∧ i ≤ Z.length ∧ Hid (Two w wr p q A B ca cb n L) ∧ Hid (bothQ 30 10 n (Z.drop i) i L = bothQ 30 10 n Z 0 [])) (fun t _ => Z.length - (match t with | .int _ x => x.toNat | _ => 0))
  case atStart => exact ⟨0, none, none, 0, 0, [], rfl, Nat.zero_le _, HT, Lib.hid rfl⟩
  case round =>
    obtain ⟨i, A, B, ca, cb, L, rfl, hi, HT, HL⟩ := hrel
    by_cases hlt : i < Z.length
    · obtain ⟨_, _, hv, _, _, hrow⟩ := HZ.out
      cases hv
      obtain ⟨g, o, Aj, cj, hA, k1w, _, _, hlj⟩ := hrow i hlt
      subst hA
      obtain ⟨c, hc⟩ : ∃ c, c = Z[i] := ⟨_, rfl⟩
      rw [← hc] at k1w hlj
      have HST : Hid (bothQ 30 10 n (Z.drop (i + 1)) (i + 1) (if i < 30 ∧ c.length ≤ 10 then addL n L c else L) = bothQ 30 10 n Z 0 []) := Lib.hid (by
        rw [← HL.out, List.drop_eq_getElem_cons hlt, hc]; rfl)
      obtain ⟨m, hm⟩ : ∃ m, m = c.length := ⟨_, rfl⟩
      rw [← hm] at k1w hlj HST
      have k1 : wr.cell? ⟨g, o + i, none⟩ = some (.slice Aj m cj) := (HT.out.bel.cell (World.block_lt_of_cell? w _ k1w)).trans k1w
      have HM := Lib.hid hm
      have HLJ := Lib.hid hlj
      have i1 : (i : Int) < (Z.length : Int) := by omega
      clear hrow hc hlj hm HL k1w
      by_cases h60 : i < 30
      · by_cases h30 : m ≤ 10
        · have h1 : (i : Int) < 30 := by omega
          have h2 : (m : Int) ≤ 10 := by omega
          rw [if_pos ⟨h60, h30⟩] at HST
          have HA := Lib.hid (Add_any p ca n A L Aj m cj c wr HT.out.s (HLJ.out.below HT.out.bel) (by omega))
          go_wp2_with fail
          go_at_call 28
          refine HA.out.mono ?_
          rintro e w3 ⟨rfl, hu3, A3, ca3, hs3, hf3⟩
          have hr3 : RSetAt w3 q B cb n L := HT.out.r.upd hu3 (fun k hk hT => HT.out.ne k hT hk) HT.out.s.notL
          have hb3 : Below w.heap.size w w3 := HT.out.bel.trans (hu3.below (fun k hk => HT.out.lo k (.inl hk)) HT.out.bel.size)
          have HRA := Lib.hid (RAdd_any q cb n B L Aj m cj c w3 hr3 (HLJ.out.below hb3) (by omega))
          have HS3 := Lib.hid hs3
          have HR3 := Lib.hid hr3
          have HB3 := Lib.hid hb3
          have HLO3 : Hid (∀ k, sF p A3 k → w.heap.size ≤ k ∧ ¬ sF q B k) := Lib.hid (fun k hk => by
            rcases hf3 k hk with h | h
            · exact ⟨HT.out.lo k (.inl h), HT.out.ne k h⟩
            · exact ⟨Nat.le_trans HT.out.bel.size h, fun h9 => by have := HT.out.r.lt k h9; omega⟩)
          have HLT3 : Hid (∀ k, sF p A3 k → k < w3.heap.size) := Lib.hid (fun k hk => hs3.lt k hk)
          clear hu3 hs3 hf3 hr3 hb3 HA
          go_wp2_with fail
          go_at_call 37
          refine HRA.out.mono ?_
          rintro e w4 ⟨rfl, hu4, B4, cb4, hr4, hf4⟩
          have hs4 : SetAt w4 p A3 ca3 n (addL n L c) := HS3.out.upd hu4 (fun k hk hT => (HLO3.out k hk).2 hT) (fun k hT => HR3.out.notL k hT)
          have hb4 : Below w.heap.size w w4 := HB3.out.trans (hu4.below (fun k hk => HT.out.lo k (.inr hk)) HB3.out.size)
          have htwo : Two w w4 p q A3 B4 ca3 cb4 n (addL n L c) := by
            refine ⟨hs4, hr4, hb4, fun k hk => ?_, fun k h1 h2 => ?_, fun d hd => ?_⟩
            · rcases hk with hk | hk
              · exact (HLO3.out k hk).1
              · rcases hf4 k hk with h | h
                · exact HT.out.lo k (.inr h)
                · exact Nat.le_trans HB3.out.size h
            · rcases hf4 k h2 with h | h
              · exact (HLO3.out k h1).2 h
              · have := HLT3.out k h1; omega
            · rcases addL_mem hd with h | h
              · exact HT.out.short d h
              · have := HM.out; omega
          have HTW := Lib.hid htwo
          clear hs4 hb4 htwo hr4 hf4 hu4
          go_wp2_with fail
          refine ⟨⟨i + 1, A3, B4, ca3, cb4, _, by go_num, by omega, HTW, HST⟩, ?_⟩
          show Z.length - ((i : Int) + 1).toNat < Z.length - (i : Int).toNat
          omega
        · have h1 : (i : Int) < 30 := by omega
          have h2 : ¬ (m : Int) ≤ 10 := by omega
          have hd2 : decide ((m : Int) ≤ 10) = false := decide_eq_false h2
          rw [if_neg (fun h => h30 h.2)] at HST
          go_wp2_with fail
          refine ⟨⟨i + 1, A, B, ca, cb, L, by go_num, by omega, HT, HST⟩, ?_⟩
          show Z.length - ((i : Int) + 1).toNat < Z.length - (i : Int).toNat
          omega
      · have h1 : decide ((i : Int) < 30) = false := decide_eq_false (by omega)
        rw [if_neg (fun h => h60 h.1)] at HST
        go_wp2_with fail
        refine ⟨⟨i + 1, A, B, ca, cb, L, by go_num, by omega, HT, HST⟩, ?_⟩
        show Z.length - ((i : Int) + 1).toNat < Z.length - (i : Int).toNat
        omega
    · have hil : i = Z.length := by omega
      have HEQ : Hid (L = bothQ 30 10 n Z 0 []) := Lib.hid (by rw [← HL.out, hil, List.drop_of_length_le (Nat.le_refl _)]; rfl)
      clear hil
      go_wp2_with fail
      go_ret2
      exact ⟨n, p, q, A, B, ca, cb, rfl, hn, by rw [← HEQ.out]; exact HT.out, both_cl _ _ n Z 0 [] HOK.out (fun c hc => by cases hc)⟩
set_option maxRecDepth 100000 in
set_option maxHeartbeats 2000000 in
theorem bothS_any (x : Int) (v : Value) (Z : List (List Int)) (w : World) (hz : ClsAt w v Z) (hZ : Z.length ≤ 4294967296) :
    Calls Try.prog 53 #[.int .i64 x, v] w fun e w' => ∃ n p q A B ca cb, e = .returned (.tuple #[.pointer (some ⟨p, 0, none⟩), .pointer (some ⟨q, 0, none⟩)]) ∧ n < 11 ∧ Two w w' p q A B ca cb n (bothQ 40 10 n Z 0 []) ∧ Pr.Cl n (bothQ 40 10 n Z 0 []) := by
  have HZ := Lib.hid hz
  have hz0 := hz
  obtain ⟨AZ, cZ, rfl, _, _, _⟩ := hz
  have HOK : Hid (∀ c ∈ Z, ∀ z ∈ c, Ok z) := Lib.hid (cls_ok hz0)
  clear hz0
  obtain ⟨n, hn, hx'⟩ := mod_un x (n := 11) (by omega)
  have hx : (IntKind.u64.wrap x).tmod 11 = (n : Int) := hx'
  have hvn : vars (n : Int) = n := by unfold vars; omega
  have HN := Lib.hid (New_any (n : Int) w)
  have HRN := Lib.hid (fun W => RNew_any (n : Int) W)
  rw [hvn] at HN HRN
  clear hx' hvn
  go_enter Try.func53, Try.ntmps53
  go_wp2_with fail
  go_at_call 29
  refine HN.out.mono ?_
  rintro e w1 ⟨p, rfl, hs1, hb1, hp⟩
  have HS1 := Lib.hid hs1
  have HB1 := Lib.hid hb1
  clear hs1 hb1 HN
  go_wp2_with fail
  go_at_call 34
  refine (HRN.out w1).mono ?_
  rintro e w2 ⟨q, rfl, hr2, hb2, hq⟩
  have hlo : ∀ k, sF p none k ∨ sF q none k → w.heap.size ≤ k := fun k hk => by
    rcases hk with (rfl | hk) | (rfl | hk)
    · exact hp
    · cases hk
    · exact Nat.le_trans HB1.out.size hq
    · cases hk
  have hne : ∀ k, sF p none k → ¬ sF q none k := fun k h1 h2 => by
    have hpl := HS1.out.blk.lt
    rcases h1 with rfl | h1
    · rcases h2 with rfl | h2
      · omega
      · cases h2
    · cases h1
  have htwo : Two w w2 p q none none 0 0 n [] := ⟨HS1.out.below hb2, hr2, HB1.out.trans (hb2.mono HB1.out.size), hlo, hne, fun c hc => by cases hc⟩
  have HT := Lib.hid htwo
  clear hr2 hb2 hq hp HS1 HB1 HRN htwo hlo hne
  go_wp2_with fail
  go_loopw [20] (fun t wr => ∃ (i : Nat) (A B : Option Addr) (ca cb : Nat) (L : List (List Int)), t = .int .i64 (i : Int) ∧ i ≤ Z.length ∧ Hid (Two w wr p q A B ca cb n L) ∧ Hid (bothQ 40 10 n (Z.drop i) i L = bothQ 40 10 n Z 0 [])) (fun t _ => Z.length - (match t with | .int _ x => x.toNat | _ => 0))
  case atStart => exact ⟨0, none, none, 0, 0, [], rfl, Nat.zero_le _, HT, Lib.hid rfl⟩
  case round =>
    obtain ⟨i, A, B, ca, cb, L, rfl, hi, HT, HL⟩ := hrel
    by_cases hlt : i < Z.length
    · obtain ⟨_, _, hv, _, _, hrow⟩ := HZ.out
      cases hv
      obtain ⟨g, o, Aj, cj, hA, k1w, _, _, hlj⟩ := hrow i hlt
      subst hA
      obtain ⟨c, hc⟩ : ∃ c, c = Z[i] := ⟨_, rfl⟩
      rw [← hc] at k1w hlj
      have HST : Hid (bothQ 40 10 n (Z.drop (i + 1)) (i + 1) (if i < 40 ∧ c.length ≤ 10 then addL n L c else L) = bothQ 40 10 n Z 0 []) := Lib.hid (by
        rw [← HL.out, List.drop_eq_getElem_cons hlt, hc]; rfl)
      obtain ⟨m, hm⟩ : ∃ m, m = c.length := ⟨_, rfl⟩
      rw [← hm] at k1w hlj HST
      have k1 : wr.cell? ⟨g, o + i, none⟩ = some (.slice Aj m cj) := (HT.out.bel.cell (World.block_lt_of_cell? w _ k1w)).trans k1w
      have HM := Lib.hid hm
      have HLJ := Lib.hid hlj
      have i1 : (i : Int) < (Z.length : Int) := by omega
      clear hrow hc hlj hm HL k1w
      by_cases h60 : i < 40
      · by_cases h30 : m ≤ 10
        · have h1 : (i : Int) < 40 := by omega
          have h2 : (m : Int) ≤ 10 := by omega
          rw [if_pos ⟨h60, h30⟩] at HST
          have HA := Lib.hid (Add_any p ca n A L Aj m cj c wr HT.out.s (HLJ.out.below HT.out.bel) (by omega))
          go_wp2_with fail
          go_at_call 28
          refine HA.out.mono ?_
          rintro e w3 ⟨rfl, hu3, A3, ca3, hs3, hf3⟩
          have hr3 : RSetAt w3 q B cb n L := HT.out.r.upd hu3 (fun k hk hT => HT.out.ne k hT hk) HT.out.s.notL
          have hb3 : Below w.heap.size w w3 := HT.out.bel.trans (hu3.below (fun k hk => HT.out.lo k (.inl hk)) HT.out.bel.size)
          have HRA := Lib.hid (RAdd_any q cb n B L Aj m cj c w3 hr3 (HLJ.out.below hb3) (by omega))
          have HS3 := Lib.hid hs3
          have HR3 := Lib.hid hr3
          have HB3 := Lib.hid hb3
          have HLO3 : Hid (∀ k, sF p A3 k → w.heap.size ≤ k ∧ ¬ sF q B k) := Lib.hid (fun k hk => by
            rcases hf3 k hk with h | h
            · exact ⟨HT.out.lo k (.inl h), HT.out.ne k h⟩
            · exact ⟨Nat.le_trans HT.out.bel.size h, fun h9 => by have := HT.out.r.lt k h9; omega⟩)
          have HLT3 : Hid (∀ k, sF p A3 k → k < w3.heap.size) := Lib.hid (fun k hk => hs3.lt k hk)
          clear hu3 hs3 hf3 hr3 hb3 HA
          go_wp2_with fail
          go_at_call 37
          refine HRA.out.mono ?_
          rintro e w4 ⟨rfl, hu4, B4, cb4, hr4, hf4⟩
          have hs4 : SetAt w4 p A3 ca3 n (addL n L c) := HS3.out.upd hu4 (fun k hk hT => (HLO3.out k hk).2 hT) (fun k hT => HR3.out.notL k hT)
          have hb4 : Below w.heap.size w w4 := HB3.out.trans (hu4.below (fun k hk => HT.out.lo k (.inr hk)) HB3.out.size)
          have htwo : Two w w4 p q A3 B4 ca3 cb4 n (addL n L c) := by
            refine ⟨hs4, hr4, hb4, fun k hk => ?_, fun k h1 h2 => ?_, fun d hd => ?_⟩
            · rcases hk with hk | hk
              · exact (HLO3.out k hk).1
              · rcases hf4 k hk with h | h
                · exact HT.out.lo k (.inr h)
                · exact Nat.le_trans HB3.out.size h
            · rcases hf4 k h2 with h | h
              · exact (HLO3.out k h1).2 h
              · have := HLT3.out k h1; omega
            · rcases addL_mem hd with h | h
              · exact HT.out.short d h
              · have := HM.out; omega
          have HTW := Lib.hid htwo
          clear hs4 hb4 htwo hr4 hf4 hu4
          go_wp2_with fail
          refine ⟨⟨i + 1, A3, B4, ca3, cb4, _, by go_num, by omega, HTW, HST⟩, ?_⟩
          show Z.length - ((i : Int) + 1).toNat < Z.length - (i : Int).toNat
          omega
        · have h1 : (i : Int) < 40 := by omega
          have h2 : ¬ (m : Int) ≤ 10 := by omega
          have hd2 : decide ((m : Int) ≤ 10) = false := decide_eq_false h2
          rw [if_neg (fun h => h30 h.2)] at HST
          go_wp2_with fail
          refine ⟨⟨i + 1, A, B, ca, cb, L, by go_num, by omega, HT, HST⟩, ?_⟩
          show Z.length - ((i : Int) + 1).toNat < Z.length - (i : Int).toNat
          omega
      · have h1 : decide ((i : Int) < 40) = false := decide_eq_false (by omega)
        rw [if_neg (fun h => h60 h.1)] at HST
        go_wp2_with fail
        refine ⟨⟨i + 1, A, B, ca, cb, L, by go_num, by omega, HT, HST⟩, ?_⟩
        show Z.length - ((i : Int) + 1).toNat < Z.length - (i : Int).toNat
        omega
    · have hil : i = Z.length := by omega
      have HEQ : Hid (L = bothQ 40 10 n Z 0 []) := Lib.hid (by rw [← HL.out, hil, List.drop_of_length_le (Nat.le_refl _)]; rfl)
      clear hil
      go_wp2_with fail
      go_ret2
      exact ⟨n, p, q, A, B, ca, cb, rfl, hn, by rw [← HEQ.out]; exact HT.out, both_cl _ _ n Z 0 [] HOK.out (fun c hc => by cases hc)⟩
end Go.Proofs.Ytghfelfljblkbaa
