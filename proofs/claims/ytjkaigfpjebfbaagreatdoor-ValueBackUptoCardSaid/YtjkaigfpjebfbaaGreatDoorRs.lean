/- relation: Parse, ParseAtoms, ParseProvides. -/
import Derived.Test.YtjkaigfpjebfbaaGreatDoorRq
import Derived.Test.YtjkaigfpjebfbaaGreatDoorRx
namespace Go.Proofs.YtjkaigfpjebfbaaGreatDoor
open Go.RowKit
set_option linter.unusedVariables false

def okv {α : Type} : Rl.Rd (List α) → List α
  | .ok L => L
  | _ => []
def eno {α : Type} : Rl.Rd α → Int
  | .ok _ => 0
  | .form => 3
  | .many => 12
theorem clauseP_len {mf : Rl.Atm → Bool} {one : Bool} : ∀ (d : Nat) {T T' : List Rl.Bs} {out l : List Rl.Atm}, Rl.clauseP nmL verL mf one d T out = .ok (l, T') → out.length < l.length ∧ l.length ≤ out.length + d ∧ (one = true → l.length = out.length + 1)
  | 0, T, T', out, l, h => by cases h
  | d + 1, T, T', out, l, h => by
    unfold Rl.clauseP at h
    cases hap : Rl.atomP nmL verL T with
    | mk o T1 =>
      rw [hap] at h
      cases o with
      | none => cases h
      | some a =>
        simp only at h
        split at h
        · split at h
          · next ho => injection h with h; injection h with h _; subst h; exact ⟨by simp, by rw [List.length_append]; simp, fun _ => by simp⟩
          · next ho =>
            cases hi : Rl.isT [124] T1 with
            | none => rw [hi] at h; injection h with h; injection h with h _; subst h; exact ⟨by simp, by rw [List.length_append]; simp, fun _ => by simp⟩
            | some T2 =>
              rw [hi] at h
              have := clauseP_len d h
              simp only [List.length_append, List.length_cons, List.length_nil] at this
              exact ⟨by omega, by omega, fun e => absurd e ho⟩
        · cases h
theorem parseP_len {mf : Rl.Atm → Bool} {one : Bool} : ∀ (d : Nat) {T : List Rl.Bs} {L0 L : List (List Rl.Atm)}, Rl.parseP nmL verL mf one d T L0 = .ok L → L.length ≤ L0.length + d ∧ ∀ l ∈ L, l ∈ L0 ∨ (1 ≤ l.length ∧ l.length ≤ 6 ∧ (one = true → l.length = 1))
  | 0, T, L0, L, h => by cases h
  | d + 1, T, L0, L, h => by
    unfold Rl.parseP at h
    cases hc : Rl.clauseP nmL verL mf one 6 T [] with
    | many => rw [hc] at h; cases h
    | form => rw [hc] at h; cases h
    | ok x =>
      obtain ⟨c, T1⟩ := x
      rw [hc] at h
      simp only at h
      have hl := clauseP_len 6 hc
      simp only [List.length_nil, Nat.zero_add] at hl
      have hone : ∀ l ∈ L0 ++ [c], l ∈ L0 ∨ (1 ≤ l.length ∧ l.length ≤ 6 ∧ (one = true → l.length = 1)) := fun l hm => by
        rcases List.mem_append.1 hm with h9 | h9
        · exact .inl h9
        · simp at h9; subst h9; exact .inr ⟨by omega, hl.2.1, hl.2.2⟩
      split at h
      · injection h with h; subst h
        exact ⟨by rw [List.length_append]; simp, hone⟩
      · cases hi : Rl.isT [44] T1 with
        | none => rw [hi] at h; cases h
        | some T2 =>
          rw [hi] at h
          have := parseP_len d h
          simp only [List.length_append, List.length_cons, List.length_nil] at this
          exact ⟨by omega, fun l hm => (this.2 l hm).elim (hone l) .inr⟩
theorem allP_len {mf : Rl.Atm → Bool} {one : Bool} {s : Rl.Bs} {L : List (List Rl.Atm)} (h : Rl.allP nmL verL mf one s = .ok L) : L.length ≤ 12 ∧ ∀ l ∈ L, 1 ≤ l.length ∧ l.length ≤ 6 ∧ (one = true → l.length = 1) := by
  unfold Rl.allP at h
  split at h
  · injection h with h; subst h
    exact ⟨Nat.zero_le _, fun l hm => by cases hm⟩
  · have := parseP_len 12 h
    exact ⟨by simpa using this.1, fun l hm => (this.2 l hm).elim (fun h => by cases h) id⟩
theorem okv_len {mf : Rl.Atm → Bool} {one : Bool} {s : Rl.Bs} : (okv (Rl.allP nmL verL mf one s)).length ≤ 12 ∧ ∀ l ∈ okv (Rl.allP nmL verL mf one s), 1 ≤ l.length ∧ l.length ≤ 6 ∧ (one = true → l.length = 1) := by
  cases h : Rl.allP nmL verL mf one s with
  | many => exact ⟨Nat.zero_le _, fun l hm => by cases hm⟩
  | form => exact ⟨Nat.zero_le _, fun l hm => by cases hm⟩
  | ok L => exact allP_len h
/-- A row of clauses that a call has made. -/
def OwnC (w : World) (base : Nat) (v : Value) (L : List (List Rl.Atm)) : Prop := ∃ A c xs, v = .slice A L.length c ∧ w.ownsRow base 55 1 (.slice A L.length c) L.length xs ∧ AIn w xs L
theorem ParRes.out {w w' : World} {e : Ending} {r : Rl.Rd (List (List Rl.Atm))} (h : ParRes w w' e r) : ∃ v, e = .returned (.tuple #[v, .int .i64 (eno r)]) ∧ OwnC w' w.heap.size v (okv r) := by
  cases r with
  | many => exact ⟨_, h, none, 0, [], rfl, World.ownsRow_nil _ _ _ _, AIn.nil _⟩
  | form => exact ⟨_, h, none, 0, [], rfl, World.ownsRow_nil _ _ _ _, AIn.nil _⟩
  | ok L =>
    obtain ⟨A, c, xs, he, ho, hi⟩ := h
    exact ⟨_, he, A, c, xs, rfl, ho, hi⟩
/-- A clause of a row. -/
theorem row_at {w : World} {base m c : Nat} {A : Option Addr} {xs : List Value} {L : List (List Rl.Atm)} (ho : w.ownsRow base 55 1 (.slice A m c) m xs) (hi : AIn w xs L) (hm : L.length = m) {j : Nat} (hj : j < m) :
    ∃ g Aj cj, A = some ⟨g, 0, none⟩ ∧ g < w.heap.size ∧ w.cell? ⟨g, j, none⟩ = some (.slice Aj (L.getD j []).length cj) ∧ (L.getD j []).length ≤ cj ∧ Reads w w.heap.size 3 Aj (L.getD j []).length (catA (L.getD j [])) ∧ ∀ a, Aj = some a → a.spot = none := by
  obtain ⟨Aj, cj, h1, h0, h2, h3⟩ := hi.2 j (by omega)
  have hr := Reads.of_own ho
  obtain ⟨ad, e, hb, hc⟩ := hr.2 (by omega)
  rcases ho.2 with ⟨_, h9⟩ | ⟨g, cap, cur, h9, _, hh, _⟩
  · omega
  · injection h9 with h9 _ _
    subst h9
    injection e with e
    subst e
    have := hc j _ h1
    have e2 : (⟨g, 0, none⟩ : Addr).add j = ⟨g, j, none⟩ := by unfold Addr.add; simp; intro h; exact h.symm
    rw [e2] at this
    exact ⟨g, Aj, cj, rfl, hb, this, h0, h2, fun a e => (h3 a e).1⟩
set_option maxRecDepth 100000 in
theorem Parse_any (s : ByteArray) (w : World) (hs : s.size ≤ 1048576) :
    Calls Tryz.prog 40 #[.string s] w fun e w' => Below w.heap.size w w' ∧ ∃ v, e = .returned (.tuple #[v, .int .i64 (eno (Rl.allP nmL verL anyF false (bl s)))]) ∧ OwnC w' w.heap.size v (okv (Rl.allP nmL verL anyF false (bl s))) := by
  have HP : Hid (Calls Tryz.prog 65 #[.string s, .func (.func 66) #[] #[], .bool false] w fun e w' => Below w.heap.size w w' ∧ ∃ v, e = .returned (.tuple #[v, .int .i64 (eno (Rl.allP nmL verL anyF false (bl s)))]) ∧ OwnC w' w.heap.size v (okv (Rl.allP nmL verL anyF false (bl s)))) := Lib.hid ((parse_any s false w hs).mono fun e w' ⟨hb, hr⟩ => ⟨hb, hr.out⟩)
  generalize eno (Rl.allP nmL verL anyF false (bl s)) = n at *
  generalize okv (Rl.allP nmL verL anyF false (bl s)) = L at *
  go_enter Tryz.func40, Tryz.ntmps40
  go_wp2_with (go_at_call 65; refine HP.out.mono ?_; rintro e w1 ⟨hb, v, rfl, ho⟩)
  go_ret2
  exact ⟨hb, v, rfl, ho⟩
theorem catA_flat (L : List (List Rl.Atm)) (i : Nat) (hi : i < L.length) : catA (L.take (i + 1)).flatten = catA (L.take i).flatten ++ catA (L.getD i []) := by
  rw [List.take_succ_eq_append_getElem hi, List.flatten_append, List.getD_eq_getElem?_getD, List.getElem?_eq_getElem hi]
  unfold catA
  simp
theorem flat_len (L : List (List Rl.Atm)) (i : Nat) (hi : i < L.length) : ((L.take (i + 1)).flatten).length = ((L.take i).flatten).length + (L.getD i []).length := by
  rw [List.take_succ_eq_append_getElem hi, List.flatten_append, List.getD_eq_getElem?_getD, List.getElem?_eq_getElem hi]
  simp
theorem catA_one (l : List Rl.Atm) : ∀ u ∈ catA l, u.oneCell' = true := fun u hu => by
  unfold catA at hu
  rw [List.mem_flatMap] at hu
  obtain ⟨a, _, h⟩ := hu
  unfold atC at h
  simp at h
  rcases h with rfl | rfl | rfl <;> rfl
set_option maxRecDepth 100000 in
set_option maxHeartbeats 4000000 in
theorem ParseAtoms_any (s : ByteArray) (w : World) (hs : s.size ≤ 1048576) :
    Calls Tryz.prog 42 #[.string s] w fun e w' => Below w.heap.size w w' ∧ ∃ A m c, e = .returned (.tuple #[.slice A m c, .int .i64 (eno (Rl.allP nmL verL anyF true (bl s)))]) ∧ m = ((okv (Rl.allP nmL verL anyF true (bl s))).flatten).length ∧ w'.ownsRow w.heap.size 87 3 (.slice A m c) m (catA ((okv (Rl.allP nmL verL anyF true (bl s))).flatten)) := by
  obtain ⟨i0, hi0, hz0, hz1, hz2⟩ := info_parts atom_row
  have HP : Hid (Calls Tryz.prog 65 #[.string s, .func (.func 66) #[] #[], .bool true] w fun e w' => Below w.heap.size w w' ∧ ∃ v, e = .returned (.tuple #[v, .int .i64 (eno (Rl.allP nmL verL anyF true (bl s)))]) ∧ OwnC w' w.heap.size v (okv (Rl.allP nmL verL anyF true (bl s)))) := Lib.hid ((parse_any s true w hs).mono fun e w' ⟨hb, hr⟩ => ⟨hb, hr.out⟩)
  have hln := okv_len (mf := anyF) (one := true) (s := bl s)
  generalize eno (Rl.allP nmL verL anyF true (bl s)) = n at *
  generalize okv (Rl.allP nmL verL anyF true (bl s)) = L at *
  have HLE : Hid (∀ i, i ≤ L.length → ((L.take i).flatten).length ≤ 6 * i) := Lib.hid (fun i => by
    induction i with
    | zero => intro _; simp
    | succ i ih =>
      intro hi
      rw [flat_len L i (by omega)]
      have h1 := ih (by omega)
      have h2 := (hln.2 (L.getD i []) (by rw [List.getD_eq_getElem?_getD, List.getElem?_eq_getElem (by omega)]; exact List.getElem_mem _)).2.1
      omega)
  have h12 := hln.1
  clear hln
  go_enter Tryz.func42, Tryz.ntmps42
  go_wp2_with fail
  go_at_call 65
  refine HP.out.mono ?_
  rintro e w1 ⟨hb1, v, rfl, A, c, xs, rfl, how, hai⟩
  obtain ⟨K, hK⟩ : ∃ K, K = L.length := ⟨_, rfl⟩
  rw [← hK] at how h12 ⊢
  have HOW := Lib.hid how
  have HAI := Lib.hid hai
  have HB1 := Lib.hid hb1
  have HKL := Lib.hid hK.symm
  clear how hai hb1 hK HP
  go_wp2_with fail
  go_loopw [6, 16] (fun u t wr => ∃ (i m co : Nat) (Ao : Option Addr), u = .slice Ao m co ∧ t = .int .i64 (i : Int) ∧ i ≤ K ∧ m ≤ 6 * i ∧ Hid (m = ((L.take i).flatten).length) ∧ Hid (wr.ownsRow w1.heap.size 87 3 (.slice Ao m co) m (catA (L.take i).flatten)) ∧ Hid (Below w1.heap.size w1 wr)) (fun _ t _ => K - (match t with | .int _ x => x.toNat | _ => 0))
  case atStart => exact ⟨0, 0, 0, none, rfl, rfl, Nat.zero_le _, Nat.zero_le _, Lib.hid (by simp), Lib.hid (World.ownsRow_nil _ _ _ _), Lib.hid (Below.refl _ _)⟩
  case round =>
    obtain ⟨i, m, co, Ao, rfl, rfl, hi, hm6, HM, HO, HB⟩ := hrel
    by_cases hlt : i < K
    · have i1 : (i : Int) < (K : Int) := by omega
      obtain ⟨g, Aj, cj, hA, hg, hcell, hle, hrd, _⟩ := row_at HOW.out HAI.out HKL.out hlt
      obtain ⟨k, hk⟩ : ∃ k, k = (L.getD i []).length := ⟨_, rfl⟩
      rw [← hk] at hcell hle hrd
      have kc : wr.cell? ⟨g, i, none⟩ = some (.slice Aj k cj) := (HB.out.cell hg).trans hcell
      have HRD := Lib.hid (hrd.below HB.out)
      have hfl := flat_len L i (by have := HKL.out; omega)
      rw [← HM.out, ← hk] at hfl
      have hl6 := HLE.out (i + 1) (by have := HKL.out; omega)
      rw [hfl] at hl6
      have HFL := Lib.hid hfl.symm
      have HCF := Lib.hid (catA_flat L i (by have := HKL.out; omega))
      have hbs := HB.out.size
      subst hA
      clear hcell hg hrd hk hfl
      go_wp2_with (at_builtin; refine wpList_append_two _ rfl (.tmp 20) (.tmp 21) 23 55 87 rfl Tryz.underlying55 w1.heap.size 87 i0 _ 3 40 Tryz.underlying23 hi0 hz0 hz1 hz2 rfl (by decide) _ m _ rfl HO.out w1.heap.size Aj k cj _ rfl HRD.out (catA_one _) (by unfold maxLen; omega) (by omega) hbs ?_; intro v5 w5 hown5 hg5 hat5; have HB5 := Lib.hid (HB.out.grown hg5 HB.out.size (fun q hq => (HO.out.lt q hq).1)); obtain ⟨A5, c5, rfl⟩ := own_shape hown5; have HOW5 : Hid (w5.ownsRow w1.heap.size 87 3 (.slice A5 (m + k) c5) (m + k) (catA (L.take (i + 1)).flatten)) := Lib.hid (by rw [HCF.out]; exact hown5); clear hown5 hg5 hat5)
      refine ⟨⟨i + 1, m + k, c5, A5, rfl, by go_num, by omega, hl6, HFL, HOW5, HB5⟩, ?_⟩
      show K - ((i : Int) + 1).toNat < K - (i : Int).toNat
      omega
    · have hnn : ¬ (i : Int) < (K : Int) := by omega
      have HTK : Hid (L.take i = L) := Lib.hid (List.take_of_length_le (by have := HKL.out; omega))
      go_wp2_with fail
      go_ret2
      exact ⟨HB1.out.trans (HB.out.mono HB1.out.size), Ao, m, co, rfl, by rw [HM.out, HTK.out, List.length_flatten], by have := HO.out; rw [HTK.out] at this; exact own_mono this HB1.out.size⟩
/-- What is provided, by its cells. -/
def prC (a : Rl.Atm) : List Value := [.string (Rl.tob a.name), .string (Rl.tob a.ver)]
def catP (l : List Rl.Atm) : List Value := l.flatMap prC
theorem prov_row : (Tryz.prog.info? 90).map (fun i => (i.zero, i.size, i.bytes)) = some (some (.agg #[.string ⟨#[]⟩, .string ⟨#[]⟩]), 2, 32) := by kernel_rfl
theorem reads_two {w : World} {g : Nat} {t : TypeId} {a b : Value} {B : Nat} (h : Blk w g t #[a, b]) (hB : g < B) : Reads w B 2 (some ⟨g, 0, none⟩) 1 [a, b] :=
  ⟨rfl, fun _ => ⟨_, rfl, hB, fun j u hj => by
    have hc := h.cell j
    have e : (⟨g, 0, none⟩ : Addr).add j = ⟨g, j, none⟩ := by unfold Addr.add; simp; intro h; exact h.symm
    rw [e, hc]
    simpa using hj⟩⟩
theorem catP_flat (L : List (List Rl.Atm)) (i : Nat) (hi : i < L.length) (a : Rl.Atm) (ha : L.getD i [] = [a]) : catP (L.take (i + 1)).flatten = catP (L.take i).flatten ++ prC a := by
  rw [List.take_succ_eq_append_getElem hi, List.flatten_append]
  rw [List.getD_eq_getElem?_getD, List.getElem?_eq_getElem hi] at ha
  have ha' : L[i] = [a] := ha
  rw [ha']
  unfold catP
  simp
set_option maxRecDepth 100000 in
set_option maxHeartbeats 4000000 in
theorem ParseProvides_any (s : ByteArray) (w : World) (hs : s.size ≤ 1048576) :
    Calls Tryz.prog 43 #[.string s] w fun e w' => Below w.heap.size w w' ∧ ∃ A m c, e = .returned (.tuple #[.slice A m c, .int .i64 (eno (Rl.allP nmL verL provF true (bl s)))]) ∧ m = (okv (Rl.allP nmL verL provF true (bl s))).length ∧ w'.ownsRow w.heap.size 90 2 (.slice A m c) m (catP ((okv (Rl.allP nmL verL provF true (bl s))).flatten)) := by
  obtain ⟨i0, hi0, hz0, hz1, hz2⟩ := info_parts prov_row
  have HP : Hid (Calls Tryz.prog 65 #[.string s, .func (.func 67) #[] #[], .bool true] w fun e w' => Below w.heap.size w w' ∧ ∃ v, e = .returned (.tuple #[v, .int .i64 (eno (Rl.allP nmL verL provF true (bl s)))]) ∧ OwnC w' w.heap.size v (okv (Rl.allP nmL verL provF true (bl s)))) := Lib.hid ((parse_prov s true w hs).mono fun e w' ⟨hb, hr⟩ => ⟨hb, hr.out⟩)
  have hln := okv_len (mf := provF) (one := true) (s := bl s)
  generalize eno (Rl.allP nmL verL provF true (bl s)) = n at *
  generalize okv (Rl.allP nmL verL provF true (bl s)) = L at *
  have HON : Hid (∀ i, i < L.length → ∃ a, L.getD i [] = [a]) := Lib.hid (fun i hi => by
    have h1 := (hln.2 (L.getD i []) (by rw [List.getD_eq_getElem?_getD, List.getElem?_eq_getElem hi]; exact List.getElem_mem _)).2.2 rfl
    cases hl : L.getD i [] with
    | nil => rw [hl] at h1; cases h1
    | cons a r =>
      rw [hl] at h1
      have : r = [] := List.eq_nil_of_length_eq_zero (by simpa using h1)
      rw [this]
      exact ⟨a, rfl⟩)
  have h12 := hln.1
  clear hln
  go_enter Tryz.func43, Tryz.ntmps43
  go_wp2_with fail
  go_at_call 65
  refine HP.out.mono ?_
  rintro e w1 ⟨hb1, v, rfl, A, c, xs, rfl, how, hai⟩
  obtain ⟨K, hK⟩ : ∃ K, K = L.length := ⟨_, rfl⟩
  rw [← hK] at how h12 ⊢
  have HOW := Lib.hid how
  have HAI := Lib.hid hai
  have HB1 := Lib.hid hb1
  have HKL := Lib.hid hK.symm
  clear how hai hb1 hK HP
  go_wp2_with fail
  go_loopw [6, 16] (fun u t wr => ∃ (i co : Nat) (Ao : Option Addr), u = .slice Ao i co ∧ t = .int .i64 (i : Int) ∧ i ≤ K ∧ Hid (wr.ownsRow w1.heap.size 90 2 (.slice Ao i co) i (catP (L.take i).flatten)) ∧ Hid (Below w1.heap.size w1 wr)) (fun _ t _ => K - (match t with | .int _ x => x.toNat | _ => 0))
  case atStart => exact ⟨0, 0, none, rfl, rfl, Nat.zero_le _, Lib.hid (World.ownsRow_nil _ _ _ _), Lib.hid (Below.refl _ _)⟩
  case round =>
    obtain ⟨i, co, Ao, rfl, rfl, hi, HO, HB⟩ := hrel
    by_cases hlt : i < K
    · have i1 : (i : Int) < (K : Int) := by omega
      obtain ⟨g, Aj, cj, hA, hg, hcell, hle, hrd, hsp⟩ := row_at HOW.out HAI.out HKL.out hlt
      obtain ⟨a, ha⟩ := HON.out i (by have := HKL.out; omega)
      have HCF := Lib.hid (catP_flat L i (by have := HKL.out; omega) a ha)
      rw [ha] at hcell hle hrd
      have hcell : w1.cell? ⟨g, i, none⟩ = some (.slice Aj 1 cj) := hcell
      obtain ⟨ad, hAj, hadl, hadc⟩ := hrd.2 (by simp)
      obtain ⟨b, o, sp⟩ := ad
      have hsp0 : sp = none := hsp _ hAj
      subst hsp0 hAj
      have e0 : (⟨b, o, none⟩ : Addr).add 0 = ⟨b, o, none⟩ := by simp [Addr.add]
      have e2 : (⟨b, o, none⟩ : Addr).add 2 = ⟨b, o + 2, none⟩ := by simp [Addr.add]
      have c0 : w1.cell? ⟨b, o, none⟩ = some (.string (Rl.tob a.name)) := by have := hadc 0 (.string (Rl.tob a.name)) rfl; rw [e0] at this; exact this
      have c2 : w1.cell? ⟨b, o + 2, none⟩ = some (.string (Rl.tob a.ver)) := by have := hadc 2 (.string (Rl.tob a.ver)) rfl; rw [e2] at this; exact this
      obtain ⟨X, hX⟩ : ∃ X, X = Rl.tob a.name := ⟨_, rfl⟩
      obtain ⟨Y, hY⟩ : ∃ Y, Y = Rl.tob a.ver := ⟨_, rfl⟩
      rw [← hX] at c0
      rw [← hY] at c2
      have HPC : Hid (prC a = [.string X, .string Y]) := Lib.hid (by unfold prC; rw [hX, hY])
      have kc : wr.cell? ⟨g, i, none⟩ = some (.slice (some ⟨b, o, none⟩) 1 cj) := (HB.out.cell hg).trans hcell
      have k0 : wr.cell? ⟨b, o, none⟩ = some (.string X) := (HB.out.cell (p := ⟨b, o, none⟩) hadl).trans c0
      have k2 : wr.cell? ⟨b, o + 2, none⟩ = some (.string Y) := (HB.out.cell (p := ⟨b, o + 2, none⟩) hadl).trans c2
      have hbs := HB.out.size
      have hbl : b < wr.heap.size := Nat.lt_of_lt_of_le hadl hbs
      have k0a : ∀ z, (wr.alloc z).cell? ⟨b, o, none⟩ = some (.string X) := fun z => (World.cell?_alloc_lt wr z _ hbl).trans k0
      have k2a : ∀ z, (wr.alloc z).cell? ⟨b, o + 2, none⟩ = some (.string Y) := fun z => (World.cell?_alloc_lt wr z _ hbl).trans k2
      have k0b : ∀ z, (wr.drew.alloc z).cell? ⟨b, o, none⟩ = some (.string X) := fun z => (World.cell?_alloc_lt wr.drew z _ hbl).trans k0
      have k2b : ∀ z, (wr.drew.alloc z).cell? ⟨b, o + 2, none⟩ = some (.string Y) := fun z => (World.cell?_alloc_lt wr.drew z _ hbl).trans k2
      subst hA
      clear hcell hg hrd hX hY e0 e2 c0 c2 hadc hadl ha hle hsp hbl
      go_wp2_with fail
      go_region_law ((refine step_append_any _ (by rfl) (.tmp 20) (.tmp 30) 24 (by rfl) w1.heap.size 90 i0 _ 2 32 Tryz.underlying24 hi0 hz0 hz1 hz2 rfl (by decide) (.slice Ao i co) i (catP (L.take i).flatten) (by simp [Act.eval]) ((HO.out.drew).alloc _) (wr.heap.size + 1) (some ⟨wr.heap.size, 0, none⟩) 1 1 [.string X, .string Y] (by simp [Act.eval]) (reads_two (Blk.new wr.drew _ _) (by simp)) (fun u hu => by simp at hu; rcases hu with rfl | rfl <;> rfl) (by unfold maxLen; omega) (by omega) (Nat.le_trans hbs (by simp)) ?_; intro v5 w5 hown5 hg5 hat5; have HB5 : Hid (Below w1.heap.size w1 w5) := Lib.hid ((HB.out.trans ((((Below.refl wr.heap.size wr).drew).alloc (Nat.le_refl _) (.cells #[.string X, .string Y] 90)).mono hbs)).grown hg5 (Nat.le_trans hbs (by simp)) (fun q hq => (HO.out.lt q hq).1)); obtain ⟨A5, c5, rfl⟩ := own_shape hown5; have HOW5 : Hid (w5.ownsRow w1.heap.size 90 2 (.slice A5 (i + 1) c5) (i + 1) (catP (L.take (i + 1)).flatten)) := Lib.hid (by rw [HCF.out, HPC.out]; exact hown5); clear hown5 hg5 hat5))
      all_goals
        go_wp2_with fail
        refine ⟨⟨i + 1, c5, A5, rfl, by go_num, by omega, HOW5, HB5⟩, ?_⟩
        show K - ((i : Int) + 1).toNat < K - (i : Int).toNat
        omega
    · have hnn : ¬ (i : Int) < (K : Int) := by omega
      have HTK : Hid (L.take i = L) := Lib.hid (List.take_of_length_le (by have := HKL.out; omega))
      have HIK : Hid (i = L.length) := Lib.hid (by have := HKL.out; omega)
      go_wp2_with fail
      go_ret2
      exact ⟨HB1.out.trans (HB.out.mono HB1.out.size), Ao, i, co, rfl, by have := HIK.out; have := HKL.out; omega, by have := HO.out; rw [HTK.out] at this; exact own_mono this HB1.out.size⟩
end Go.Proofs.YtjkaigfpjebfbaaGreatDoor
