/- What value.Read hands back is written, and read again it is the same. -/
import Derived.Test.YtjkaigfpjebfbaaGreatDoorX2
import Derived.Test.YtjkaigfpjebfbaaGreatDoorZo
import Derived.Test.YtjkaigfpjebfbaaGreatDoorZp
namespace Go.Proofs.YtjkaigfpjebfbaaGreatDoor
open Go.RowKit
set_option linter.unusedVariables false

theorem itoa_inv (n : Nat) (hn : n < 1000000000) : ∀ (m k j : Nat) (s : ByteArray), k ≤ m → Inv n k j s → numZ (⟨(Lib.decDigits k).toArray⟩ ++ s) = (n, true) ∧ ((⟨(Lib.decDigits k).toArray⟩ : ByteArray) ++ s).size ≤ 9 := by
  intro m
  induction m with
  | zero =>
    intro k j s hk h
    obtain rfl : k = 0 := by omega
    rw [Lib.decDigits_one (by omega)]
    have := h.last ⟨[UInt8.ofNat (48 + 0)].toArray⟩ rfl rfl (by omega) hn
    exact ⟨this.1, this.2.2⟩
  | succ m ih =>
    intro k j s hk h
    by_cases h10 : k < 10
    · rw [Lib.decDigits_one h10]
      have := h.last ⟨[UInt8.ofNat (48 + k)].toArray⟩ rfl (by show (UInt8.ofNat (48 + k)).toNat = _; simp; omega) h10 hn
      exact ⟨this.1, this.2.2⟩
    · have e : Lib.decDigits k = Lib.decDigits (k / 10) ++ [UInt8.ofNat (48 + k % 10)] := by rw [Lib.decDigits, dif_neg h10]
      have e2 : (⟨(Lib.decDigits k).toArray⟩ : ByteArray) ++ s = ⟨(Lib.decDigits (k / 10)).toArray⟩ ++ ((⟨[UInt8.ofNat (48 + k % 10)].toArray⟩ : ByteArray) ++ s) := by
        apply bl_inj
        rw [bl_app, bl_app, bl_app]
        show Lib.decDigits k ++ _ = Lib.decDigits (k / 10) ++ ([_] ++ _)
        rw [e, List.append_assoc]
      rw [e2]
      exact ih (k / 10) (j + 1) _ (by omega) (h.step ⟨[UInt8.ofNat (48 + k % 10)].toArray⟩ rfl (by show (UInt8.ofNat (48 + k % 10)).toNat = _; simp; omega) (by omega))
theorem itoa_back (n : Nat) (hn : n < 1000000000) : numZ (itoaB (n : Int)) = (n, true) ∧ (itoaB (n : Int)).size ≤ 9 := by
  have h := itoa_inv n hn n n 0 ByteArray.empty (Nat.le_refl _) (Inv.start n)
  have e : (⟨(Lib.decDigits n).toArray⟩ : ByteArray) ++ ByteArray.empty = itoaB (n : Int) := by
    apply bl_inj
    rw [bl_app]
    show Lib.decDigits n ++ [] = Lib.itoa (n : Int)
    unfold Lib.itoa
    rw [List.append_nil, if_neg (by omega), Int.toNat_natCast]
  rw [e] at h
  exact h
theorem numFrom_lt (s : ByteArray) : ∀ (f i acc : Nat), acc < 10 ^ i → i ≤ s.size → (numFrom s f i acc).1 < 10 ^ s.size
  | 0, i, acc, h, hi => Nat.lt_of_lt_of_le h (Nat.pow_le_pow_right (by omega) hi)
  | f + 1, i, acc, h, hi => by
    by_cases hl : i < s.size
    · cases hd : digB (byteAt s i) with
      | false => rw [numFrom_no _ _ _ _ hl hd]; exact Nat.pow_pos (by omega)
      | true =>
        rw [numFrom_yes _ _ _ _ hl hd]
        refine numFrom_lt s f (i + 1) _ ?_ (by omega)
        unfold digB at hd
        have hd := of_decide_eq_true hd
        rw [Nat.pow_succ]
        omega
    · rw [numFrom_end _ _ _ _ hl]
      exact Nat.lt_of_lt_of_le h (Nat.pow_le_pow_right (by omega) hi)
theorem numZ_lt (s : ByteArray) : (numZ s).1 < 1000000000 := by
  unfold numZ
  split
  · exact (by decide : 0 < 1000000000)
  · next h =>
    have h1 := numFrom_lt s s.size 0 0 (by decide) (Nat.zero_le _)
    have h2 : 10 ^ s.size ≤ 10 ^ 9 := Nat.pow_le_pow_right (by omega) (by omega)
    omega
/-- What value.Read hands back. -/
def VZ (q : Nat) (t : ByteArray) (n : Int) (b : Bool) (C : List (List RA)) (A : List RA) (P : List RP) (E : Int) (w : World) (e : Ending) (w' : World) : Prop :=
  ∃ x, e = .returned (.tuple #[.agg #[x], .int .i64 E]) ∧ (E = 0 → VAt w' q x C A P ∧ (asText x).1 = .string t ∧ (asCount x).1 = .int .i64 n ∧ (asYes x).1 = .bool b) ∧ (E ≠ 0 → x = .nilIface) ∧ Below w.heap.size w w'
def RdZ (nm s : ByteArray) (q : Nat) (t : ByteArray) (n : Int) (b : Bool) (C : List (List RA)) (A : List RA) (P : List RP) (E : Int) : Prop :=
  ∀ w, Calls Tryz.prog 10 #[.string nm, .string s] w (VZ q t n b C A P E w)
/-- What is read may be written, and its text reads as the same. -/
def BackR (nm s : ByteArray) (q : Nat) (t : ByteArray) (n : Int) (b : Bool) (C : List (List RA)) (A : List RA) (P : List RP) (E : Int) : Prop :=
  RdZ nm s q t n b C A P E ∧ (E = 0 → ∃ X, RdZ nm X q t n b C A P 0 ∧ ∀ (x : Value) (w W : World), VAt w q x C A P → (asText x).1 = .string t → (asCount x).1 = .int .i64 n → (asYes x).1 = .bool b → Below w.heap.size w W → Tab W → Wr x X true W)
theorem wr_text {s : ByteArray} {x : Value} {w W : World} {C : List (List RA)} {A : List RA} {P : List RP} (h : VAt w 1 x C A P) (ht : (asText x).1 = .string s) : Wr x s true W := by
  cases h with
  | text s1 =>
    have e : s1 = s := by injection ht
    subst e
    exact Write_text s1 W
theorem back_name (nm s : ByteArray) (hn : nm.size ≤ 1048576) (hs : s.size ≤ 1048576) (hf : fieldN nm = 0) : BackR nm s 1 s 0 false [] [] [] (if nameB s then 0 else 3) := by
  have h : RdZ nm s 1 s 0 false [] [] [] (if nameB s then 0 else 3) := fun w => (Read_name nm s hn hs hf w).mono fun e w' ⟨he, hb⟩ => ⟨_, he, fun hE => by
    cases hc : nameB s with
    | true => exact ⟨.text s, rfl, rfl, rfl⟩
    | false => rw [hc] at hE; exact absurd hE (by decide), fun hE => by
    cases hc : nameB s with
    | true => rw [hc] at hE; exact absurd rfl hE
    | false => rfl, hb⟩
  exact ⟨h, fun hE => ⟨s, by rw [hE] at h; exact h, fun x w W hv ht _ _ _ _ => wr_text hv ht⟩⟩
theorem back_version (nm s : ByteArray) (hn : nm.size ≤ 1048576) (hs : s.size ≤ 1048576) (hf : fieldN nm = 1) : BackR nm s 1 s 0 false [] [] [] (if verB s then 0 else 3) := by
  have h : RdZ nm s 1 s 0 false [] [] [] (if verB s then 0 else 3) := fun w => (Read_version nm s hn hs hf w).mono fun e w' ⟨he, hb⟩ => ⟨_, he, fun hE => by
    cases hc : verB s with
    | true => exact ⟨.text s, rfl, rfl, rfl⟩
    | false => rw [hc] at hE; exact absurd hE (by decide), fun hE => by
    cases hc : verB s with
    | true => rw [hc] at hE; exact absurd rfl hE
    | false => rfl, hb⟩
  exact ⟨h, fun hE => ⟨s, by rw [hE] at h; exact h, fun x w W hv ht _ _ _ _ => wr_text hv ht⟩⟩
theorem back_text (nm s : ByteArray) (hn : nm.size ≤ 1048576) (hs : s.size ≤ 1048576) (hf : fieldN nm = 7) : BackR nm s 1 s 0 false [] [] [] 0 := by
  have h : RdZ nm s 1 s 0 false [] [] [] 0 := fun w => (Read_text nm s hn hf w).mono fun e w' ⟨he, hb⟩ => ⟨_, he, fun hE => ⟨.text s, rfl, rfl, rfl⟩, fun hE => absurd rfl hE, hb⟩
  exact ⟨h, fun hE => ⟨s, h, fun x w W hv ht _ _ _ _ => wr_text hv ht⟩⟩
theorem back_yes (nm s : ByteArray) (hn : nm.size ≤ 1048576) (hs : s.size ≤ 1048576) (hf : fieldN nm = 5) : BackR nm s 3 ⟨#[]⟩ 0 (decide (s = yesB)) [] [] [] (if s = yesB ∨ s = noB then 0 else 3) := by
  have h : RdZ nm s 3 ⟨#[]⟩ 0 (decide (s = yesB)) [] [] [] (if s = yesB ∨ s = noB then 0 else 3) := fun w => (Read_yes nm s hn hf w).mono fun e w' ⟨he, hb⟩ => ⟨_, he, fun hE => by
    by_cases hc : s = yesB ∨ s = noB
    · rw [if_pos hc]; exact ⟨.yes _, rfl, rfl, rfl⟩
    · rw [if_neg hc] at hE; exact absurd hE (by decide), fun hE => by
    by_cases hc : s = yesB ∨ s = noB
    · rw [if_pos hc] at hE; exact absurd rfl hE
    · rw [if_neg hc], hb⟩
  refine ⟨h, fun hE => ⟨s, by rw [hE] at h; exact h, fun x w W hv _ _ hy _ _ => ?_⟩⟩
  have hc : s = yesB ∨ s = noB := by
    by_cases hc : s = yesB ∨ s = noB
    · exact hc
    · rw [if_neg hc] at hE; exact absurd hE (by decide)
  cases hv with
  | yes b =>
    have e : b = decide (s = yesB) := by injection hy
    subst e
    rcases hc with rfl | rfl
    · exact Write_yes_true W
    · exact Write_yes_false W
theorem back_count (nm s : ByteArray) (hn : nm.size ≤ 1048576) (hs : s.size ≤ 1048576) (hf : fieldN nm = 6) : BackR nm s 2 ⟨#[]⟩ ((numZ s).1 : Int) false [] [] [] (if (numZ s).2 then 0 else 3) := by
  have h : ∀ s : ByteArray, s.size ≤ 1048576 → RdZ nm s 2 ⟨#[]⟩ ((numZ s).1 : Int) false [] [] [] (if (numZ s).2 then 0 else 3) := fun s hs w => (Read_count nm s hn hs hf w).mono fun e w' ⟨he, hb⟩ => ⟨_, he, fun hE => by
    cases hc : (numZ s).2 with
    | true => exact ⟨.count _, rfl, rfl, rfl⟩
    | false => rw [hc] at hE; exact absurd hE (by decide), fun hE => by
    cases hc : (numZ s).2 with
    | true => rw [hc] at hE; exact absurd rfl hE
    | false => rfl, hb⟩
  have hlt := numZ_lt s
  obtain ⟨i1, i2⟩ := itoa_back _ hlt
  refine ⟨h s hs, fun hE => ⟨itoaB ((numZ s).1 : Int), ?_, fun x w W hv _ hc _ _ hT => ?_⟩⟩
  · have := h (itoaB ((numZ s).1 : Int)) (by omega)
    rw [i1] at this
    exact this
  · cases hv with
    | count n =>
      have e : n = ((numZ s).1 : Int) := by injection hc
      subst e
      exact Write_count _ (by omega) (by omega) W hT
theorem szC_ok {C : List (List RA)} (h : okL C = true) : SzC C := fun c hc a ha => by
  have h1 := mayR_len ((okC_len ((okL_len h).2 c hc)).2.2 a ha)
  omega
theorem wOk_yes {X : ByteArray} {n : Nat} (h : n ≠ 0 → X ≠ ⟨#[]⟩) : wOk X n = true := by
  unfold wOk
  by_cases hn : n = 0
  · rw [decide_eq_true hn, Bool.or_true]
  · rw [decide_eq_false (h hn)]; rfl
theorem eno_ok {r : Rl.Rd (List (List Rl.Atm))} (h : eno r = 0) : ∃ L, r = .ok L := by
  cases r with
  | ok L => exact ⟨L, rfl⟩
  | form => exact absurd h (by decide)
  | many => exact absurd h (by decide)
theorem tob_len (l : Rl.Bs) : (Rl.tob l).size = l.length := rfl
theorem back_clauses (nm s : ByteArray) (hn : nm.size ≤ 1048576) (hs : s.size ≤ 1048576) (hf : fieldN nm = 2) :
    BackR nm s 4 ⟨#[]⟩ 0 false ((okv (Rl.allP nmL verL anyF false (bl s))).map (·.map raA)) [] [] (eno (Rl.allP nmL verL anyF false (bl s))) := by
  have h : ∀ s : ByteArray, s.size ≤ 1048576 → RdZ nm s 4 ⟨#[]⟩ 0 false ((okv (Rl.allP nmL verL anyF false (bl s))).map (·.map raA)) [] [] (eno (Rl.allP nmL verL anyF false (bl s))) := fun s hs w => (Read_clauses nm s hn hs hf w).mono fun e w' ⟨x, he, h1, h2, hb⟩ => ⟨x, he, fun hE => by
    have hv := h1 hE
    refine ⟨hv, ?_⟩
    generalize (okv (Rl.allP nmL verL anyF false (bl s))).map (·.map raA) = L at hv
    cases hv with
    | clauses => exact ⟨rfl, rfl, rfl⟩, h2, hb⟩
  refine ⟨h s hs, fun hE => ?_⟩
  obtain ⟨L, hL⟩ := eno_ok hE
  have hX := h (Rl.tob (ltx (L.map (·.map raA)))) (by rw [tob_len]; have := ltx_len (L.map (·.map raA)); omega)
  rw [Rl.bl_tob, allP_back hL] at hX
  rw [hL]
  refine ⟨_, hX, fun x w W hv _ _ _ hb hT => ?_⟩
  have hv : VAt w 4 x (L.map (·.map raA)) [] [] := hv
  have hne := allP_ne hL
  have hsz := szC_ok (allP_okL hL)
  have hln : (L.map (·.map raA)).length = L.length := by rw [List.length_map]
  generalize L.map (·.map raA) = C at *
  cases hv with
  | clauses A0 n0 c0 _ hh g1 g2 =>
    have := wr_clauses hh hsz W hb
    rw [wOk_yes (fun hz => hne (fun e => hz (by rw [hln, e]; rfl)))] at this
    exact this
theorem back_atoms (nm s : ByteArray) (hn : nm.size ≤ 1048576) (hs : s.size ≤ 1048576) (hf : fieldN nm = 3) :
    BackR nm s 5 ⟨#[]⟩ 0 false [] ((okv (Rl.allP nmL verL anyF true (bl s))).flatten.map raA) [] (eno (Rl.allP nmL verL anyF true (bl s))) := by
  have h : ∀ s : ByteArray, s.size ≤ 1048576 → RdZ nm s 5 ⟨#[]⟩ 0 false [] ((okv (Rl.allP nmL verL anyF true (bl s))).flatten.map raA) [] (eno (Rl.allP nmL verL anyF true (bl s))) := fun s hs w => (Read_atoms nm s hn hs hf w).mono fun e w' ⟨x, he, h1, h2, hb⟩ => ⟨x, he, fun hE => by
    have hv := h1 hE
    refine ⟨hv, ?_⟩
    generalize (okv (Rl.allP nmL verL anyF true (bl s))).flatten.map raA = L at hv
    cases hv with
    | atoms => exact ⟨rfl, rfl, rfl⟩, h2, hb⟩
  refine ⟨h s hs, fun hE => ?_⟩
  obtain ⟨L, hL⟩ := eno_ok hE
  have h1 : ∀ l ∈ L, l.length = 1 := fun l hl => ((allP_len hL).2 l hl).2.2 rfl
  have hX := h (Rl.tob (ltx (L.map (·.map raA)))) (by rw [tob_len]; have := ltx_len (L.map (·.map raA)); omega)
  rw [Rl.bl_tob, allP_back hL] at hX
  rw [hL]
  refine ⟨_, hX, fun x w W hv _ _ _ hb hT => ?_⟩
  have hv : VAt w 5 x [] (L.flatten.map raA) [] := hv
  have hne := allP_ne hL
  have hsz := szC_ok (allP_okL hL)
  have hs1 := single_map h1
  have hln : (L.flatten.map raA).length = L.length := by rw [List.length_map, flat_one9 h1]
  have hl12 := (allP_len hL).1
  rw [← hs1] at hsz hne ⊢
  have hsA : SzA (L.flatten.map raA) := fun a ha => hsz [a] (List.mem_map.2 ⟨a, ha, rfl⟩) a (.head _)
  generalize L.flatten.map raA = A at *
  cases hv with
  | atoms A0 n0 c0 _ hh g1 =>
    have := wr_atoms hh g1 hsA W hb
    rw [wOk_yes (fun hz => hne (fun e => hz (by rw [hln, e]; rfl)))] at this
    exact this
theorem back_provides (nm s : ByteArray) (hn : nm.size ≤ 1048576) (hs : s.size ≤ 1048576) (hf : fieldN nm = 4) :
    BackR nm s 6 ⟨#[]⟩ 0 false [] [] ((okv (Rl.allP nmL verL provF true (bl s))).flatten.map rpA) (eno (Rl.allP nmL verL provF true (bl s))) := by
  have h : ∀ s : ByteArray, s.size ≤ 1048576 → RdZ nm s 6 ⟨#[]⟩ 0 false [] [] ((okv (Rl.allP nmL verL provF true (bl s))).flatten.map rpA) (eno (Rl.allP nmL verL provF true (bl s))) := fun s hs w => (Read_provides nm s hn hs hf w).mono fun e w' ⟨x, he, h1, h2, hb⟩ => ⟨x, he, fun hE => by
    have hv := h1 hE
    refine ⟨hv, ?_⟩
    generalize (okv (Rl.allP nmL verL provF true (bl s))).flatten.map rpA = L at hv
    cases hv with
    | provides => exact ⟨rfl, rfl, rfl⟩, h2, hb⟩
  refine ⟨h s hs, fun hE => ?_⟩
  obtain ⟨L, hL⟩ := eno_ok hE
  have h1 : ∀ l ∈ L, l.length = 1 := fun l hl => ((allP_len hL).2 l hl).2.2 rfl
  have hX := h (Rl.tob (ltx (L.map (·.map raA)))) (by rw [tob_len]; have := ltx_len (L.map (·.map raA)); omega)
  rw [Rl.bl_tob, allP_back hL] at hX
  rw [hL]
  refine ⟨_, hX, fun x w W hv _ _ _ hb hT => ?_⟩
  have hv : VAt w 6 x [] [] (L.flatten.map rpA) := hv
  have hne := allP_ne hL
  have hsz := szC_ok (allP_okL hL)
  have hs1 := single_prov h1 (allP_may hL)
  have hln : (L.flatten.map rpA).length = L.length := by rw [List.length_map, flat_one9 h1]
  have hsP : SzP (L.flatten.map rpA) := fun a ha => by
    have := hsz [pvA a] (by rw [← hs1]; exact List.mem_map.2 ⟨pvA a, List.mem_map.2 ⟨a, ha, rfl⟩, rfl⟩) (pvA a) (.head _)
    exact this
  rw [← hs1] at hne ⊢
  generalize L.flatten.map rpA = P at *
  cases hv with
  | provides A0 n0 c0 _ hh g1 =>
    have := wr_provides hh g1 hsP W hb
    rw [wOk_yes (fun hz => hne (fun e => hz (by rw [hln, e]; rfl)))] at this
    exact this
theorem fieldN_le (nm : ByteArray) : fieldN nm = 0 ∨ fieldN nm = 1 ∨ fieldN nm = 2 ∨ fieldN nm = 3 ∨ fieldN nm = 4 ∨ fieldN nm = 5 ∨ fieldN nm = 6 ∨ fieldN nm = 7 := by
  unfold fieldN
  split <;> try omega
  split <;> try omega
  split <;> try omega
  split <;> try omega
  split <;> try omega
  split <;> try omega
  split <;> omega
theorem back_any (nm s : ByteArray) (hn : nm.size ≤ 1048576) (hs : s.size ≤ 1048576) : ∃ q t n b C A P E, q ≠ 0 ∧ BackR nm s q t n b C A P E := by
  rcases fieldN_le nm with h | h | h | h | h | h | h | h
  · exact ⟨_, _, _, _, _, _, _, _, by decide, back_name nm s hn hs h⟩
  · exact ⟨_, _, _, _, _, _, _, _, by decide, back_version nm s hn hs h⟩
  · exact ⟨_, _, _, _, _, _, _, _, by decide, back_clauses nm s hn hs h⟩
  · exact ⟨_, _, _, _, _, _, _, _, by decide, back_atoms nm s hn hs h⟩
  · exact ⟨_, _, _, _, _, _, _, _, by decide, back_provides nm s hn hs h⟩
  · exact ⟨_, _, _, _, _, _, _, _, by decide, back_yes nm s hn hs h⟩
  · exact ⟨_, _, _, _, _, _, _, _, by decide, back_count nm s hn hs h⟩
  · exact ⟨_, _, _, _, _, _, _, _, by decide, back_text nm s hn hs h⟩
end Go.Proofs.YtjkaigfpjebfbaaGreatDoor
