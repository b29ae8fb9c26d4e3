/- chandlerref4.Text. -/
import Derived.Test.YtdchnllflodmkaaRg
namespace Go.Proofs.Ytdchnllflodmkaa
open Go.RowKit
set_option linter.unusedVariables false

theorem join_snoc (sep x : List UInt8) (xs : List (List UInt8)) : Lib.join (xs ++ [x]) sep = (if xs = [] then [] else Lib.join xs sep ++ sep) ++ x := by
  cases xs with
  | nil => simp [Lib.join_one]
  | cons y r =>
    rw [if_neg (by simp), List.cons_append, Lib.join_cons, Lib.join_cons]
    unfold Lib.joinTail
    simp
/-- The text ahead of a row's next part. -/
def ahd (sep : Rl.Bs) (xs : List Rl.Bs) : Rl.Bs := if xs = [] then [] else Lib.join xs sep ++ sep
theorem tob_size' (l : Rl.Bs) : (Rl.tob l).size = l.length := rfl
set_option maxRecDepth 100000 in
set_option maxHeartbeats 16000000 in
theorem RText_any (v : Value) (L : List (List RA)) (w : World) (h : ClsAt w v L) (hsz : ∀ c ∈ L, ∀ a ∈ c, a.n.size ≤ 1048576 ∧ a.v.size ≤ 1048576) :
    Calls Try.prog 15 #[v] w fun e w' => e = .returned (.string (Rl.tob (ltx L))) ∧ Below w.heap.size w w' := by
  obtain ⟨A, cA, rfl, hcA, hA⟩ := h
  obtain ⟨X, hX⟩ : ∃ X, X = Rl.tob (ltx L) := ⟨_, rfl⟩
  have HBAD : Hid (∀ j (h : j < L.length), okC L[j] = false → X = ⟨#[]⟩) := Lib.hid (fun j hj h => by rw [hX]; exact ltx_bad (okL_at hj h))
  have HMANY : Hid (12 < L.length → X = ⟨#[]⟩) := Lib.hid (fun h => by rw [hX]; exact ltx_bad (by unfold okL; rw [decide_eq_false (by omega)]; rfl))
  have HOK : Hid (L.length ≤ 12 → (∀ j (h : j < L.length), okC L[j] = true) → X = Rl.tob (Lib.join (L.map ctx) [44, 32])) := Lib.hid (fun h1 h2 => by
    rw [hX]
    have e : ltx L = Lib.join (L.map ctx) [44, 32] := by unfold ltx; rw [if_pos (okL_all h1 h2)]
    rw [e])
  rw [← hX]
  obtain ⟨n, hn⟩ : ∃ n, n = L.length := ⟨_, rfl⟩
  rw [← hn]
  have HN := Lib.hid hn
  have HA := Lib.hid hA
  have HSZ := Lib.hid hsz
  clear hX hn hA hsz hcA
  go_enter Try.func15, Try.ntmps15
  by_cases h12 : n ≤ 12
  case neg =>
    have q : (12 : Int) < (n : Int) := by omega
    have HR := Lib.hid (HMANY.out (by rw [← HN.out]; omega))
    clear h12
    go_wp2_with fail
    go_ret
    exact ⟨by rw [HR.out]; rfl, Below.refl _ _⟩
  have q : ¬ (12 : Int) < (n : Int) := by omega
  go_wp2_with fail
  go_loopw [3, 13] (fun u t wr => ∃ (i : Nat) (S : ByteArray), u = .string S ∧ t = .int .i64 (i : Int) ∧ i ≤ n ∧ S.size ≤ 600 * i ∧ Hid (S = Rl.tob (Lib.join ((L.take i).map ctx) [44, 32])) ∧ Hid (∀ j (h : j < L.length), j < i → okC L[j] = true) ∧ Hid (Below w.heap.size w wr)) (fun _ t _ => n - (match t with | .int _ x => x.toNat | _ => 0))
  case atStart => exact ⟨0, ⟨#[]⟩, rfl, rfl, Nat.zero_le _, Nat.zero_le _, Lib.hid rfl, Lib.hid (fun j _ hj => by omega), Lib.hid (Below.refl _ _)⟩
  case round =>
    obtain ⟨i, S, rfl, rfl, hi, hS6, HS, HI, HB⟩ := hrel
    by_cases hlt : i < n
    case neg =>
      have hok := HOK.out (by have := HN.out; omega) (fun j hj => HI.out j hj (by have := HN.out; omega))
      have HR : Hid (X = S) := Lib.hid (by rw [hok, HS.out, List.take_of_length_le (by have := HN.out; omega)])
      have hnn : ¬ (i : Int) < (n : Int) := by omega
      clear hok
      go_wp2_with fail
      go_ret
      exact ⟨by rw [HR.out]; rfl, HB.out⟩
    obtain ⟨g, o, V, e1, a1, hats⟩ := HA.out i (by have := HN.out; omega)
    obtain ⟨B, cB, hV, hcB, hB⟩ := hats
    subst e1
    have hil : i < L.length := by have := HN.out; omega
    have hok := HBAD.out i hil
    have hczs := HSZ.out (L[i]'hil) (List.getElem_mem hil)
    have htk := take_map_succ ctx L i hil
    obtain ⟨c, hc⟩ : ∃ c, c = L[i]'(by have := HN.out; omega) := ⟨_, rfl⟩
    rw [← hc] at hok hczs hV hB htk
    have hi1 : ∀ j (h : j < L.length), okC c = true → j < i + 1 → okC L[j] = true := fun j h h9 hj => by
      by_cases e : j = i
      · subst e; rw [← hc]; exact h9
      · exact HI.out j h (by omega)
    have HI1 := Lib.hid hi1
    have HBD := Lib.hid hok
    have HCS := Lib.hid hczs
    have HNX : Hid (Rl.tob (Lib.join ((L.take (i + 1)).map ctx) [44, 32]) = Rl.tob (ahd [44, 32] ((L.take i).map ctx) ++ ctx c)) := Lib.hid (by rw [htk, join_snoc]; rfl)
    obtain ⟨k, hk⟩ : ∃ k, k = c.length := ⟨_, rfl⟩
    rw [← hk] at hV
    rw [hV] at a1
    have ka := (HB.out.cell (World.block_lt_of_cell? w _ a1)).trans a1
    have HK := Lib.hid hk
    have HBB := Lib.hid hB
    have hln : (i : Int) < (n : Int) := by omega
    clear hok hczs htk hc hil hi1 hk hV a1 hB hcB
    by_cases hi00 : i = 0
    · have i0 : ¬ (0 : Int) < (i : Int) := by omega
      have HP0 : Hid (S = Rl.tob (ahd [44, 32] ((L.take i).map ctx))) := Lib.hid (by
        have hz : (L.take i).map ctx = [] ↔ i = 0 := by rw [List.map_eq_nil_iff, List.take_eq_nil_iff]; constructor; { rintro (h | h); { exact h }; { have := HN.out; rw [h] at this; simp at this; omega } }; { exact fun h => .inl h }
        unfold ahd
        rw [HS.out, (hz.2 (by omega)), if_pos rfl]; rfl)
      clear hi00
      by_cases hk1 : 1 ≤ k
      case neg =>
        have q0 : ((k : Int) == 0) = true := by rw [beq_iff_eq]; omega
        have HR := Lib.hid (HBD.out (by unfold okC; rw [← HK.out, decide_eq_false (by omega)]; rfl))
        clear hk1
        go_wp2_with fail
        go_ret
        exact ⟨by rw [HR.out]; rfl, HB.out⟩
      have q0 : ((k : Int) == 0) = false := by rw [beq_eq_false_iff_ne]; omega
      by_cases hk6 : k ≤ 6
      case neg =>
        have q6 : decide ((6 : Int) < (k : Int)) = true := decide_eq_true (by omega)
        have HR := Lib.hid (HBD.out (by unfold okC; rw [← HK.out, decide_eq_false hk6]; simp))
        clear hk1 hk6
        go_wp2_with fail
        go_ret
        exact ⟨by rw [HR.out]; rfl, HB.out⟩
      have q6 : decide ((6 : Int) < (k : Int)) = false := decide_eq_false (by omega)
      go_wp2_with fail
      obtain ⟨P, hP⟩ : ∃ P, P = S := ⟨_, rfl⟩
      have hPs : P.size ≤ 600 * i + 2 := by rw [hP]; omega
      have hsp := hP.symm; subst hsp
      obtain ⟨P0, hP0⟩ : ∃ P0, P0 = ahd [44, 32] ((L.take i).map ctx) := ⟨_, rfl⟩
      have HP := HP0.out
      rw [← hP0] at HP
      have HNX2 := HNX.out
      rw [← hP0] at HNX2
      have HPH := Lib.hid HP
      have HNXH := Lib.hid HNX2
      clear ka HP0 HNX HP HNX2 hP0
      obtain ⟨wo, rfl⟩ : ∃ wo : World, wo = wr := ⟨_, rfl⟩
      go_loopw [3, 32] (fun u t wr => ∃ (j : Nat) (S2 : ByteArray), u = .string S2 ∧ t = .int .i64 (j : Int) ∧ j ≤ k ∧ S2.size ≤ 600 * i + 2 + 90 * j ∧ Hid (S2 = Rl.tob (P0 ++ Lib.join ((c.take j).map atx) [32, 124, 32])) ∧ Hid (∀ m (h : m < c.length), m < j → mayR c[m] = true) ∧ Hid (Below w.heap.size w wr)) (fun _ t _ => k - (match t with | .int _ x => x.toNat | _ => 0))
      case atStart => exact ⟨0, S, rfl, rfl, Nat.zero_le _, by omega, Lib.hid (by rw [HPH.out]; show Rl.tob P0 = Rl.tob (P0 ++ []); rw [List.append_nil]), Lib.hid (fun j _ hj => by omega), HB⟩
      case round =>
        obtain ⟨j, S2, rfl, rfl, hj, hS7, HS2, HMI, HBI⟩ := hrel
        by_cases hjk : j < k
        case neg =>
          have hcok := okC_all (c := c) (by have := HK.out; omega) (by have := HK.out; omega) (fun m hm => HMI.out m hm (by have := HK.out; omega))
          have HI2 := Lib.hid (fun j h hj => HI1.out j h hcok hj)
          have HS3 : Hid (S2 = Rl.tob (Lib.join ((L.take (i + 1)).map ctx) [44, 32])) := Lib.hid (by
            rw [HNXH.out, HS2.out, List.take_of_length_le (by have := HK.out; omega)]; rfl)
          have hjn : ¬ (j : Int) < (k : Int) := by omega
          clear hcok
          go_wp2_with fail
          refine ⟨⟨i + 1, S2, rfl, by go_num, by omega, by omega, HS3, HI2, HBI⟩, ?_⟩
          show n - ((i : Int) + 1).toNat < n - (i : Int).toNat
          omega
        obtain ⟨b2, o2, e2, a4, a5, a6⟩ := HBB.out j (by have := HK.out; omega)
        subst e2
        have hjl0 : j < c.length := by have := HK.out; omega
        have hasz := HCS.out (c[j]'hjl0) (List.getElem_mem hjl0)
        have hmb := fun (hh : mayR c[j] = false) => HBD.out (okC_at hjl0 hh)
        have htk := take_map_succ atx c j hjl0
        obtain ⟨a, ha⟩ : ∃ a, a = c[j]'(by have := HK.out; omega) := ⟨_, rfl⟩
        rw [← ha] at hasz hmb htk a4 a5 a6
        have hm1 : mayR a = true → ∀ m (h : m < c.length), m < j + 1 → mayR c[m] = true := fun h9 m h hm => by
          by_cases e : m = j
          · subst e; rw [← ha]; exact h9
          · exact HMI.out m h (by omega)
        have HM1 := Lib.hid hm1
        have hbz : Below w.heap.size w wr := HBI.out
        have ka := (hbz.cell (World.block_lt_of_cell? w _ a4)).trans a4
        have kb := (hbz.cell (World.block_lt_of_cell? w _ a5)).trans a5
        have kc := (hbz.cell (World.block_lt_of_cell? w _ a6)).trans a6
        have HMAY : Hid (∀ W, Calls Try.prog 23 #[.agg #[.string a.n, .int .i64 a.r, .string a.v]] W fun e w' => e = .returned (.bool (mayR a)) ∧ Below W.heap.size W w') := Lib.hid (fun W => rmay_any a.n a.r a.v W hasz.1 hasz.2)
        have HATM : Hid (∀ W, Calls Try.prog 21 #[.agg #[.string a.n, .int .i64 a.r, .string a.v]] W fun e w' => e = .returned (.string (Rl.tob (atx a))) ∧ Below W.heap.size W w') := Lib.hid (fun W => RAtom_any a W hasz.1 hasz.2)
        obtain ⟨Y, hY⟩ : ∃ Y, Y = Rl.tob (atx a) := ⟨_, rfl⟩
        have hYs : Y.size ≤ 78 := by rw [hY]; exact atx_len a
        rw [← hY] at HATM
        have HY := Lib.hid hY
        have HTK2 := Lib.hid htk
        have HMB := Lib.hid hmb
        obtain ⟨my, hmy⟩ : ∃ my, my = mayR a := ⟨_, rfl⟩
        rw [← hmy] at HMB HMAY HM1
        obtain ⟨an, ar, av⟩ := a
        simp only at ka kb kc HMAY HATM
        have hjl : (j : Int) < (k : Int) := by omega
        have hbk := Blk.new wr 38 #[.string an, .int .i64 ar, .string av]
        have HBK := Lib.hid hbk
        have HBZ := Lib.hid hbz
        have hba : Below wr.heap.size wr (wr.alloc (.cells #[.string an, .int .i64 ar, .string av] 38)) := (Below.refl _ _).alloc (Nat.le_refl _) _
        have HBA := Lib.hid hba
        clear hjl0 a4 a5 a6 hasz hmb htk ha hm1 hY hmy hbk hbz hba
        by_cases hj0 : j = 0
        · have j0 : ¬ (0 : Int) < (j : Int) := by omega
          have HNY : Hid (S2 ++ Y = Rl.tob (P0 ++ Lib.join ((c.take (j + 1)).map atx) [32, 124, 32])) := Lib.hid (by
            have hz : (c.take j).map atx = [] ↔ j = 0 := by rw [List.map_eq_nil_iff, List.take_eq_nil_iff]; constructor; { rintro (h | h); { exact h }; { have := HK.out; rw [h] at this; simp at this; omega } }; { exact fun h => .inl h }
            rw [HS2.out, HY.out, HTK2.out, join_snoc]
            rw [if_pos (hz.2 (by omega)), (hz.2 (by omega)), List.nil_append, Lib.join_nil, List.append_nil, tob_app])
          clear hj0
          cases my with
          | false =>
            have HR := Lib.hid (HMB.out rfl)
            go_wp2_with (go_at_call 23; refine (HMAY.out _).mono ?_; rintro e w2 ⟨rfl, hb2⟩)
            go_ret
            exact ⟨by rw [HR.out]; rfl, HBZ.out.trans ((HBA.out.trans (hb2.mono HBA.out.size)).mono HBZ.out.size)⟩
          | true =>
            have HM2 := Lib.hid (HM1.out rfl)
            clear HMB HM1
            go_wp2_with (first
              | (go_at_call 23; refine (HMAY.out _).mono ?_; rintro e w2 ⟨rfl, hb2⟩; have hbk2 := HBK.out.below hb2 HBK.out.lt; have k0 : w2.cell? ⟨wr.heap.size, 0, none⟩ = some (.string an) := hbk2.cell 0; have k1 : w2.cell? ⟨wr.heap.size, 1, none⟩ = some (.int .i64 ar) := hbk2.cell 1; have k2 : w2.cell? ⟨wr.heap.size, 2, none⟩ = some (.string av) := hbk2.cell 2; have HB2 := Lib.hid (HBA.out.trans (hb2.mono HBA.out.size)); clear hb2 hbk2)
              | (go_at_call 21; refine (HATM.out _).mono ?_; rintro e w3 ⟨rfl, hb3⟩; have HB3 := Lib.hid (HB2.out.trans (hb3.mono HB2.out.size)); clear hb3))
            refine ⟨⟨j + 1, S2 ++ Y, rfl, by go_num, by omega, ?_, HNY, HM2, Lib.hid (HBZ.out.trans (HB3.out.mono HBZ.out.size))⟩, ?_⟩
            · simp only [ByteArray.size_append]; first | omega | (have : (⟨#[32, 124, 32]⟩ : ByteArray).size = 3 := rfl; omega)
            · show k - ((j : Int) + 1).toNat < k - (j : Int).toNat
              omega
        · have j0 : 0 < j := by omega
          have HNY : Hid (S2 ++ ⟨#[32, 124, 32]⟩ ++ Y = Rl.tob (P0 ++ Lib.join ((c.take (j + 1)).map atx) [32, 124, 32])) := Lib.hid (by
            have hz : (c.take j).map atx = [] ↔ j = 0 := by rw [List.map_eq_nil_iff, List.take_eq_nil_iff]; constructor; { rintro (h | h); { exact h }; { have := HK.out; rw [h] at this; simp at this; omega } }; { exact fun h => .inl h }
            rw [HS2.out, HY.out, HTK2.out, join_snoc]
            rw [if_neg (fun h => by have := hz.1 h; omega)]; simp only [tob_app]; rw [ByteArray.append_assoc, ByteArray.append_assoc, ByteArray.append_assoc]; rfl)
          clear hj0
          cases my with
          | false =>
            have HR := Lib.hid (HMB.out rfl)
            go_wp2_with (go_at_call 23; refine (HMAY.out _).mono ?_; rintro e w2 ⟨rfl, hb2⟩)
            go_ret
            exact ⟨by rw [HR.out]; rfl, HBZ.out.trans ((HBA.out.trans (hb2.mono HBA.out.size)).mono HBZ.out.size)⟩
          | true =>
            have HM2 := Lib.hid (HM1.out rfl)
            clear HMB HM1
            go_wp2_with (first
              | (go_at_call 23; refine (HMAY.out _).mono ?_; rintro e w2 ⟨rfl, hb2⟩; have hbk2 := HBK.out.below hb2 HBK.out.lt; have k0 : w2.cell? ⟨wr.heap.size, 0, none⟩ = some (.string an) := hbk2.cell 0; have k1 : w2.cell? ⟨wr.heap.size, 1, none⟩ = some (.int .i64 ar) := hbk2.cell 1; have k2 : w2.cell? ⟨wr.heap.size, 2, none⟩ = some (.string av) := hbk2.cell 2; have HB2 := Lib.hid (HBA.out.trans (hb2.mono HBA.out.size)); clear hb2 hbk2)
              | (go_at_call 21; refine (HATM.out _).mono ?_; rintro e w3 ⟨rfl, hb3⟩; have HB3 := Lib.hid (HB2.out.trans (hb3.mono HB2.out.size)); clear hb3))
            refine ⟨⟨j + 1, S2 ++ ⟨#[32, 124, 32]⟩ ++ Y, rfl, by go_num, by omega, ?_, HNY, HM2, Lib.hid (HBZ.out.trans (HB3.out.mono HBZ.out.size))⟩, ?_⟩
            · simp only [ByteArray.size_append]; first | omega | (have : (⟨#[32, 124, 32]⟩ : ByteArray).size = 3 := rfl; omega)
            · show k - ((j : Int) + 1).toNat < k - (j : Int).toNat
              omega
    · have i0 : 0 < i := by omega
      have HP0 : Hid ((S ++ ⟨#[44, 32]⟩) = Rl.tob (ahd [44, 32] ((L.take i).map ctx))) := Lib.hid (by
        have hz : (L.take i).map ctx = [] ↔ i = 0 := by rw [List.map_eq_nil_iff, List.take_eq_nil_iff]; constructor; { rintro (h | h); { exact h }; { have := HN.out; rw [h] at this; simp at this; omega } }; { exact fun h => .inl h }
        unfold ahd
        rw [HS.out, if_neg (fun h => by have := hz.1 h; omega), tob_app]; rfl)
      clear hi00
      by_cases hk1 : 1 ≤ k
      case neg =>
        have q0 : ((k : Int) == 0) = true := by rw [beq_iff_eq]; omega
        have HR := Lib.hid (HBD.out (by unfold okC; rw [← HK.out, decide_eq_false (by omega)]; rfl))
        clear hk1
        go_wp2_with fail
        go_ret
        exact ⟨by rw [HR.out]; rfl, HB.out⟩
      have q0 : ((k : Int) == 0) = false := by rw [beq_eq_false_iff_ne]; omega
      by_cases hk6 : k ≤ 6
      case neg =>
        have q6 : decide ((6 : Int) < (k : Int)) = true := decide_eq_true (by omega)
        have HR := Lib.hid (HBD.out (by unfold okC; rw [← HK.out, decide_eq_false hk6]; simp))
        clear hk1 hk6
        go_wp2_with fail
        go_ret
        exact ⟨by rw [HR.out]; rfl, HB.out⟩
      have q6 : decide ((6 : Int) < (k : Int)) = false := decide_eq_false (by omega)
      go_wp2_with fail
      obtain ⟨P, hP⟩ : ∃ P, P = (S ++ ⟨#[44, 32]⟩) := ⟨_, rfl⟩
      have hPs : P.size ≤ 600 * i + 2 := by rw [hP]; rw [ByteArray.size_append]; have : (⟨#[44, 32]⟩ : ByteArray).size = 2 := rfl; omega
      rw [← hP]
      obtain ⟨P0, hP0⟩ : ∃ P0, P0 = ahd [44, 32] ((L.take i).map ctx) := ⟨_, rfl⟩
      have HP := HP0.out
      rw [← hP0, ← hP] at HP
      have HNX2 := HNX.out
      rw [← hP0] at HNX2
      have HPH := Lib.hid HP
      have HNXH := Lib.hid HNX2
      clear ka HP0 HNX hP HP HNX2 hP0
      obtain ⟨wo, rfl⟩ : ∃ wo : World, wo = wr := ⟨_, rfl⟩
      go_loopw [3, 32] (fun u t wr => ∃ (j : Nat) (S2 : ByteArray), u = .string S2 ∧ t = .int .i64 (j : Int) ∧ j ≤ k ∧ S2.size ≤ 600 * i + 2 + 90 * j ∧ Hid (S2 = Rl.tob (P0 ++ Lib.join ((c.take j).map atx) [32, 124, 32])) ∧ Hid (∀ m (h : m < c.length), m < j → mayR c[m] = true) ∧ Hid (Below w.heap.size w wr)) (fun _ t _ => k - (match t with | .int _ x => x.toNat | _ => 0))
      case atStart => exact ⟨0, P, rfl, rfl, Nat.zero_le _, by omega, Lib.hid (by rw [HPH.out]; show Rl.tob P0 = Rl.tob (P0 ++ []); rw [List.append_nil]), Lib.hid (fun j _ hj => by omega), HB⟩
      case round =>
        obtain ⟨j, S2, rfl, rfl, hj, hS7, HS2, HMI, HBI⟩ := hrel
        by_cases hjk : j < k
        case neg =>
          have hcok := okC_all (c := c) (by have := HK.out; omega) (by have := HK.out; omega) (fun m hm => HMI.out m hm (by have := HK.out; omega))
          have HI2 := Lib.hid (fun j h hj => HI1.out j h hcok hj)
          have HS3 : Hid (S2 = Rl.tob (Lib.join ((L.take (i + 1)).map ctx) [44, 32])) := Lib.hid (by
            rw [HNXH.out, HS2.out, List.take_of_length_le (by have := HK.out; omega)]; rfl)
          have hjn : ¬ (j : Int) < (k : Int) := by omega
          clear hcok
          go_wp2_with fail
          refine ⟨⟨i + 1, S2, rfl, by go_num, by omega, by omega, HS3, HI2, HBI⟩, ?_⟩
          show n - ((i : Int) + 1).toNat < n - (i : Int).toNat
          omega
        obtain ⟨b2, o2, e2, a4, a5, a6⟩ := HBB.out j (by have := HK.out; omega)
        subst e2
        have hjl0 : j < c.length := by have := HK.out; omega
        have hasz := HCS.out (c[j]'hjl0) (List.getElem_mem hjl0)
        have hmb := fun (hh : mayR c[j] = false) => HBD.out (okC_at hjl0 hh)
        have htk := take_map_succ atx c j hjl0
        obtain ⟨a, ha⟩ : ∃ a, a = c[j]'(by have := HK.out; omega) := ⟨_, rfl⟩
        rw [← ha] at hasz hmb htk a4 a5 a6
        have hm1 : mayR a = true → ∀ m (h : m < c.length), m < j + 1 → mayR c[m] = true := fun h9 m h hm => by
          by_cases e : m = j
          · subst e; rw [← ha]; exact h9
          · exact HMI.out m h (by omega)
        have HM1 := Lib.hid hm1
        have hbz : Below w.heap.size w wr := HBI.out
        have ka := (hbz.cell (World.block_lt_of_cell? w _ a4)).trans a4
        have kb := (hbz.cell (World.block_lt_of_cell? w _ a5)).trans a5
        have kc := (hbz.cell (World.block_lt_of_cell? w _ a6)).trans a6
        have HMAY : Hid (∀ W, Calls Try.prog 23 #[.agg #[.string a.n, .int .i64 a.r, .string a.v]] W fun e w' => e = .returned (.bool (mayR a)) ∧ Below W.heap.size W w') := Lib.hid (fun W => rmay_any a.n a.r a.v W hasz.1 hasz.2)
        have HATM : Hid (∀ W, Calls Try.prog 21 #[.agg #[.string a.n, .int .i64 a.r, .string a.v]] W fun e w' => e = .returned (.string (Rl.tob (atx a))) ∧ Below W.heap.size W w') := Lib.hid (fun W => RAtom_any a W hasz.1 hasz.2)
        obtain ⟨Y, hY⟩ : ∃ Y, Y = Rl.tob (atx a) := ⟨_, rfl⟩
        have hYs : Y.size ≤ 78 := by rw [hY]; exact atx_len a
        rw [← hY] at HATM
        have HY := Lib.hid hY
        have HTK2 := Lib.hid htk
        have HMB := Lib.hid hmb
        obtain ⟨my, hmy⟩ : ∃ my, my = mayR a := ⟨_, rfl⟩
        rw [← hmy] at HMB HMAY HM1
        obtain ⟨an, ar, av⟩ := a
        simp only at ka kb kc HMAY HATM
        have hjl : (j : Int) < (k : Int) := by omega
        have hbk := Blk.new wr 38 #[.string an, .int .i64 ar, .string av]
        have HBK := Lib.hid hbk
        have HBZ := Lib.hid hbz
        have hba : Below wr.heap.size wr (wr.alloc (.cells #[.string an, .int .i64 ar, .string av] 38)) := (Below.refl _ _).alloc (Nat.le_refl _) _
        have HBA := Lib.hid hba
        clear hjl0 a4 a5 a6 hasz hmb htk ha hm1 hY hmy hbk hbz hba
        by_cases hj0 : j = 0
        · have j0 : ¬ (0 : Int) < (j : Int) := by omega
          have HNY : Hid (S2 ++ Y = Rl.tob (P0 ++ Lib.join ((c.take (j + 1)).map atx) [32, 124, 32])) := Lib.hid (by
            have hz : (c.take j).map atx = [] ↔ j = 0 := by rw [List.map_eq_nil_iff, List.take_eq_nil_iff]; constructor; { rintro (h | h); { exact h }; { have := HK.out; rw [h] at this; simp at this; omega } }; { exact fun h => .inl h }
            rw [HS2.out, HY.out, HTK2.out, join_snoc]
            rw [if_pos (hz.2 (by omega)), (hz.2 (by omega)), List.nil_append, Lib.join_nil, List.append_nil, tob_app])
          clear hj0
          cases my with
          | false =>
            have HR := Lib.hid (HMB.out rfl)
            go_wp2_with (go_at_call 23; refine (HMAY.out _).mono ?_; rintro e w2 ⟨rfl, hb2⟩)
            go_ret
            exact ⟨by rw [HR.out]; rfl, HBZ.out.trans ((HBA.out.trans (hb2.mono HBA.out.size)).mono HBZ.out.size)⟩
          | true =>
            have HM2 := Lib.hid (HM1.out rfl)
            clear HMB HM1
            go_wp2_with (first
              | (go_at_call 23; refine (HMAY.out _).mono ?_; rintro e w2 ⟨rfl, hb2⟩; have hbk2 := HBK.out.below hb2 HBK.out.lt; have k0 : w2.cell? ⟨wr.heap.size, 0, none⟩ = some (.string an) := hbk2.cell 0; have k1 : w2.cell? ⟨wr.heap.size, 1, none⟩ = some (.int .i64 ar) := hbk2.cell 1; have k2 : w2.cell? ⟨wr.heap.size, 2, none⟩ = some (.string av) := hbk2.cell 2; have HB2 := Lib.hid (HBA.out.trans (hb2.mono HBA.out.size)); clear hb2 hbk2)
              | (go_at_call 21; refine (HATM.out _).mono ?_; rintro e w3 ⟨rfl, hb3⟩; have HB3 := Lib.hid (HB2.out.trans (hb3.mono HB2.out.size)); clear hb3))
            refine ⟨⟨j + 1, S2 ++ Y, rfl, by go_num, by omega, ?_, HNY, HM2, Lib.hid (HBZ.out.trans (HB3.out.mono HBZ.out.size))⟩, ?_⟩
            · simp only [ByteArray.size_append]; first | omega | (have : (⟨#[32, 124, 32]⟩ : ByteArray).size = 3 := rfl; omega)
            · show k - ((j : Int) + 1).toNat < k - (j : Int).toNat
              omega
        · have j0 : 0 < j := by omega
          have HNY : Hid (S2 ++ ⟨#[32, 124, 32]⟩ ++ Y = Rl.tob (P0 ++ Lib.join ((c.take (j + 1)).map atx) [32, 124, 32])) := Lib.hid (by
            have hz : (c.take j).map atx = [] ↔ j = 0 := by rw [List.map_eq_nil_iff, List.take_eq_nil_iff]; constructor; { rintro (h | h); { exact h }; { have := HK.out; rw [h] at this; simp at this; omega } }; { exact fun h => .inl h }
            rw [HS2.out, HY.out, HTK2.out, join_snoc]
            rw [if_neg (fun h => by have := hz.1 h; omega)]; simp only [tob_app]; rw [ByteArray.append_assoc, ByteArray.append_assoc, ByteArray.append_assoc]; rfl)
          clear hj0
          cases my with
          | false =>
            have HR := Lib.hid (HMB.out rfl)
            go_wp2_with (go_at_call 23; refine (HMAY.out _).mono ?_; rintro e w2 ⟨rfl, hb2⟩)
            go_ret
            exact ⟨by rw [HR.out]; rfl, HBZ.out.trans ((HBA.out.trans (hb2.mono HBA.out.size)).mono HBZ.out.size)⟩
          | true =>
            have HM2 := Lib.hid (HM1.out rfl)
            clear HMB HM1
            go_wp2_with (first
              | (go_at_call 23; refine (HMAY.out _).mono ?_; rintro e w2 ⟨rfl, hb2⟩; have hbk2 := HBK.out.below hb2 HBK.out.lt; have k0 : w2.cell? ⟨wr.heap.size, 0, none⟩ = some (.string an) := hbk2.cell 0; have k1 : w2.cell? ⟨wr.heap.size, 1, none⟩ = some (.int .i64 ar) := hbk2.cell 1; have k2 : w2.cell? ⟨wr.heap.size, 2, none⟩ = some (.string av) := hbk2.cell 2; have HB2 := Lib.hid (HBA.out.trans (hb2.mono HBA.out.size)); clear hb2 hbk2)
              | (go_at_call 21; refine (HATM.out _).mono ?_; rintro e w3 ⟨rfl, hb3⟩; have HB3 := Lib.hid (HB2.out.trans (hb3.mono HB2.out.size)); clear hb3))
            refine ⟨⟨j + 1, S2 ++ ⟨#[32, 124, 32]⟩ ++ Y, rfl, by go_num, by omega, ?_, HNY, HM2, Lib.hid (HBZ.out.trans (HB3.out.mono HBZ.out.size))⟩, ?_⟩
            · simp only [ByteArray.size_append]; first | omega | (have : (⟨#[32, 124, 32]⟩ : ByteArray).size = 3 := rfl; omega)
            · show k - ((j : Int) + 1).toNat < k - (j : Int).toNat
              omega
end Go.Proofs.Ytdchnllflodmkaa
