/- chandlerlaw13: both. -/
import Derived.Test.YtghfelfljblkbaaRHolds
import Derived.Test.YtghfelfljblkbaaCls
namespace Go.Proofs.Ytghfelfljblkbaa
open Go.RowKit Go.Sort
set_option linter.unusedVariables false

/-- The clauses that 'both' adds. -/
def bothL (n : Nat) : List (List Int) → Nat → List (List Int) → List (List Int)
  | [], _, acc => acc
  | c :: r, i, acc => bothL n r (i + 1) (if i < 60 ∧ c.length ≤ 30 then addL n acc c else acc)
theorem addL_mem {n : Nat} {L : List (List Int)} {zs c : List Int} (h : c ∈ addL n L zs) : c ∈ L ∨ c.length ≤ zs.length := by
  unfold addL at h
  split at h
  · cases ht : Cf.tidy zs with
    | none => rw [ht] at h; exact .inl h
    | some r =>
      rw [ht] at h
      rcases List.mem_append.1 h with h | h
      · exact .inl h
      · simp only [List.mem_singleton] at h
        subst h
        exact .inr (Cf.tidy_len ht)
  · exact .inl h
/-- Both sets, side by side. -/
structure Two (w0 w : World) (p q : Nat) (A B : Option Addr) (ca cb n : Nat) (L : List (List Int)) : Prop where
  s : SetAt w p A ca n L
  r : RSetAt w q B cb n L
  bel : Below w0.heap.size w0 w
  lo : ∀ k, sF p A k ∨ sF q B k → w0.heap.size ≤ k
  ne : ∀ k, sF p A k → ¬ sF q B k
  short : ∀ c ∈ L, c.length ≤ 30
theorem SetAt.notL {w : World} {p cap n : Nat} {A : Option Addr} {L : List (List Int)} (h : SetAt w p A cap n L) : ∀ k, sF p A k → ¬ IsL w k := by
  obtain ⟨xs, ho, _⟩ := h.row
  rintro k (rfl | hk)
  · exact set_isL h.blk
  · exact not_isL ho (by rw [← hk]; exact ownB)
theorem RSetAt.notL {w : World} {p cap n : Nat} {A : Option Addr} {L : List (List Int)} (h : RSetAt w p A cap n L) : ∀ k, sF p A k → ¬ IsL w k := by
  obtain ⟨xs, ho, _⟩ := h.row
  rintro k (rfl | hk)
  · exact rset_isL h.blk
  · exact not_isL ho (by rw [← hk]; exact ownB)
theorem Two.below {w0 w w' : World} {p q ca cb n : Nat} {A B : Option Addr} {L : List (List Int)} (h : Two w0 w p q A B ca cb n L) (hb : Below w.heap.size w w') : Two w0 w' p q A B ca cb n L :=
  ⟨h.s.below hb, h.r.below hb, h.bel.trans (hb.mono h.bel.size), h.lo, h.ne, h.short⟩
set_option maxRecDepth 100000 in
set_option maxHeartbeats 2000000 in
theorem both_any (x : Int) (v : Value) (Z : List (List Int)) (w : World) (hz : ClsAt w v Z) (hZ : Z.length ≤ 4294967296) :
    Calls Try.prog 26 #[.int .i64 x, v] w fun e w' => ∃ p q A B ca cb, e = .returned (.tuple #[.pointer (some ⟨p, 0, none⟩), .pointer (some ⟨q, 0, none⟩)]) ∧ Two w w' p q A B ca cb (vars x) (bothL (vars x) Z 0 []) := by
  have HZ := Lib.hid hz
  obtain ⟨AZ, cZ, rfl, _, _, _⟩ := hz
  have HN := Lib.hid (New_any x w)
  have HRN := Lib.hid (fun W => RNew_any x W)
  generalize vars x = n at *
  go_enter Try.func26, Try.ntmps26
  go_wp2_with fail
  go_at_call 29
  refine HN.out.mono ?_
  rintro e w1 ⟨p, rfl, hs1, hb1, hp⟩
  have HS1 := Lib.hid hs1
  have HB1 := Lib.hid hb1
  clear hs1 hb1 HN
  go_wp2_with fail
  go_at_call 34
  refine (HRN.out w1).mono ?_
  rintro e w2 ⟨q, rfl, hr2, hb2, hq⟩
  have hlo : ∀ k, sF p none k ∨ sF q none k → w.heap.size ≤ k := fun k hk => by
    rcases hk with (rfl | hk) | (rfl | hk)
    · exact hp
    · cases hk
    · exact Nat.le_trans HB1.out.size hq
    · cases hk
  have hne : ∀ k, sF p none k → ¬ sF q none k := fun k h1 h2 => by
    have hpl := HS1.out.blk.lt
    rcases h1 with rfl | h1
    · rcases h2 with rfl | h2
      · omega
      · cases h2
    · cases h1
  have htwo : Two w w2 p q none none 0 0 n [] := ⟨HS1.out.below hb2, hr2, HB1.out.trans (hb2.mono HB1.out.size), hlo, hne, fun c hc => by cases hc⟩
  have HT := Lib.hid htwo
  clear hr2 hb2 hq hp HS1 HB1 HRN htwo hlo hne
  go_wp2_with fail
  go_loopw [16] (fun t wr => ∃ (i : Nat) (A B : Option Addr) (ca cb : Nat) (L : List (List Int)), t = .int .i64 (i : Int) ∧ i ≤ Z.length ∧ Hid (Two w wr p q A B ca cb n L) ∧ Hid (bothL n (Z.drop i) i L = bothL n Z 0 [])) (fun t _ => Z.length - (match t with | .int _ x => x.toNat | _ => 0))
  case atStart => exact ⟨0, none, none, 0, 0, [], rfl, Nat.zero_le _, HT, Lib.hid rfl⟩
  case round =>
    obtain ⟨i, A, B, ca, cb, L, rfl, hi, HT, HL⟩ := hrel
    by_cases hlt : i < Z.length
    · obtain ⟨_, _, hv, _, _, hrow⟩ := HZ.out
      cases hv
      obtain ⟨g, o, Aj, cj, hA, k1w, _, _, hlj⟩ := hrow i hlt
      subst hA
      obtain ⟨c, hc⟩ : ∃ c, c = Z[i] := ⟨_, rfl⟩
      rw [← hc] at k1w hlj
      have HST : Hid (bothL n (Z.drop (i + 1)) (i + 1) (if i < 60 ∧ c.length ≤ 30 then addL n L c else L) = bothL n Z 0 []) := Lib.hid (by
        rw [← HL.out, List.drop_eq_getElem_cons hlt, hc]; rfl)
      obtain ⟨m, hm⟩ : ∃ m, m = c.length := ⟨_, rfl⟩
      rw [← hm] at k1w hlj HST
      have k1 : wr.cell? ⟨g, o + i, none⟩ = some (.slice Aj m cj) := (HT.out.bel.cell (World.block_lt_of_cell? w _ k1w)).trans k1w
      have HM := Lib.hid hm
      have HLJ := Lib.hid hlj
      have i1 : (i : Int) < (Z.length : Int) := by omega
      clear hrow hc hlj hm HL k1w
      by_cases h60 : i < 60
      · by_cases h30 : m ≤ 30
        · have h1 : (i : Int) < 60 := by omega
          have h2 : (m : Int) ≤ 30 := by omega
          rw [if_pos ⟨h60, h30⟩] at HST
          have HA := Lib.hid (Add_any p ca n A L Aj m cj c wr HT.out.s (HLJ.out.below HT.out.bel) (by omega))
          go_wp2_with fail
          go_at_call 28
          refine HA.out.mono ?_
          rintro e w3 ⟨rfl, hu3, A3, ca3, hs3, hf3⟩
          have hr3 : RSetAt w3 q B cb n L := HT.out.r.upd hu3 (fun k hk hT => HT.out.ne k hT hk) HT.out.s.notL
          have hb3 : Below w.heap.size w w3 := HT.out.bel.trans (hu3.below (fun k hk => HT.out.lo k (.inl hk)) HT.out.bel.size)
          have HRA := Lib.hid (RAdd_any q cb n B L Aj m cj c w3 hr3 (HLJ.out.below hb3) (by omega))
          have HS3 := Lib.hid hs3
          have HR3 := Lib.hid hr3
          have HB3 := Lib.hid hb3
          have HLO3 : Hid (∀ k, sF p A3 k → w.heap.size ≤ k ∧ ¬ sF q B k) := Lib.hid (fun k hk => by
            rcases hf3 k hk with h | h
            · exact ⟨HT.out.lo k (.inl h), HT.out.ne k h⟩
            · exact ⟨Nat.le_trans HT.out.bel.size h, fun h9 => by have := HT.out.r.lt k h9; omega⟩)
          have HLT3 : Hid (∀ k, sF p A3 k → k < w3.heap.size) := Lib.hid (fun k hk => hs3.lt k hk)
          clear hu3 hs3 hf3 hr3 hb3 HA
          go_wp2_with fail
          go_at_call 37
          refine HRA.out.mono ?_
          rintro e w4 ⟨rfl, hu4, B4, cb4, hr4, hf4⟩
          have hs4 : SetAt w4 p A3 ca3 n (addL n L c) := HS3.out.upd hu4 (fun k hk hT => (HLO3.out k hk).2 hT) (fun k hT => HR3.out.notL k hT)
          have hb4 : Below w.heap.size w w4 := HB3.out.trans (hu4.below (fun k hk => HT.out.lo k (.inr hk)) HB3.out.size)
          have htwo : Two w w4 p q A3 B4 ca3 cb4 n (addL n L c) := by
            refine ⟨hs4, hr4, hb4, fun k hk => ?_, fun k h1 h2 => ?_, fun d hd => ?_⟩
            · rcases hk with hk | hk
              · exact (HLO3.out k hk).1
              · rcases hf4 k hk with h | h
                · exact HT.out.lo k (.inr h)
                · exact Nat.le_trans HB3.out.size h
            · rcases hf4 k h2 with h | h
              · exact (HLO3.out k h1).2 h
              · have := HLT3.out k h1; omega
            · rcases addL_mem hd with h | h
              · exact HT.out.short d h
              · have := HM.out; omega
          have HTW := Lib.hid htwo
          clear hs4 hb4 htwo hr4 hf4 hu4
          go_wp2_with fail
          refine ⟨⟨i + 1, A3, B4, ca3, cb4, _, by go_num, by omega, HTW, HST⟩, ?_⟩
          show Z.length - ((i : Int) + 1).toNat < Z.length - (i : Int).toNat
          omega
        · have h1 : (i : Int) < 60 := by omega
          have h2 : ¬ (m : Int) ≤ 30 := by omega
          have hd2 : decide ((m : Int) ≤ 30) = false := decide_eq_false h2
          rw [if_neg (fun h => h30 h.2)] at HST
          go_wp2_with fail
          refine ⟨⟨i + 1, A, B, ca, cb, L, by go_num, by omega, HT, HST⟩, ?_⟩
          show Z.length - ((i : Int) + 1).toNat < Z.length - (i : Int).toNat
          omega
      · have h1 : decide ((i : Int) < 60) = false := decide_eq_false (by omega)
        rw [if_neg (fun h => h60 h.1)] at HST
        go_wp2_with fail
        refine ⟨⟨i + 1, A, B, ca, cb, L, by go_num, by omega, HT, HST⟩, ?_⟩
        show Z.length - ((i : Int) + 1).toNat < Z.length - (i : Int).toNat
        omega
    · have hil : i = Z.length := by omega
      have HEQ : Hid (L = bothL n Z 0 []) := Lib.hid (by rw [← HL.out, hil, List.drop_of_length_le (Nat.le_refl _)]; rfl)
      clear hil
      go_wp2_with fail
      go_ret2
      exact ⟨p, q, A, B, ca, cb, rfl, by rw [← HEQ.out]; exact HT.out⟩
end Go.Proofs.Ytghfelfljblkbaa
