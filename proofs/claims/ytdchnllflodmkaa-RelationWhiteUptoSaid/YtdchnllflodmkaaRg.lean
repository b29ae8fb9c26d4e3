/- relation.Text. -/
import Derived.Test.YtdchnllflodmkaaRf
namespace Go.Proofs.Ytdchnllflodmkaa
open Go.RowKit
set_option linter.unusedVariables false

theorem joinTail_le (sep : List UInt8) (m : Nat) : ∀ (r : List (List UInt8)), (∀ x ∈ r, x.length ≤ m) → (Lib.joinTail sep r).length ≤ r.length * (sep.length + m)
  | [], h => Nat.zero_le _
  | x :: r, h => by
    have h1 := joinTail_le sep m r (fun y hy => h y (.tail _ hy))
    have h2 := h x (.head _)
    have e : (Lib.joinTail sep (x :: r)).length = sep.length + x.length + (Lib.joinTail sep r).length := by unfold Lib.joinTail; simp [Nat.add_assoc]
    rw [e, List.length_cons, Nat.succ_mul]
    omega
theorem join_le (sep : List UInt8) (m : Nat) (r : List (List UInt8)) (h : ∀ x ∈ r, x.length ≤ m) : (Lib.join r sep).length ≤ r.length * (sep.length + m) := by
  cases r with
  | nil => exact Nat.zero_le _
  | cons x r =>
    rw [Lib.join_cons, List.length_append, List.length_cons, Nat.succ_mul]
    have h1 := joinTail_le sep m r (fun y hy => h y (.tail _ hy))
    have h2 := h x (.head _)
    omega
theorem ctx_len {c : List RA} (h : c.length ≤ 6) : (ctx c).length ≤ 486 := by
  have := join_le [32, 124, 32] 78 (c.map atx) (fun x hx => by
    obtain ⟨a, _, rfl⟩ := List.mem_map.1 hx
    exact atx_len a)
  rw [List.length_map] at this
  unfold ctx
  refine Nat.le_trans this ?_
  have : c.length * (3 + 78) ≤ 6 * (3 + 78) := Nat.mul_le_mul_right _ h
  exact this
theorem okC_len {c : List RA} (h : okC c = true) : 1 ≤ c.length ∧ c.length ≤ 6 ∧ ∀ a ∈ c, mayR a = true := by
  unfold okC at h
  simp only [Bool.and_eq_true, decide_eq_true_eq, List.all_eq_true] at h
  exact ⟨h.1.1, h.1.2, h.2⟩
theorem okL_len {L : List (List RA)} (h : okL L = true) : L.length ≤ 12 ∧ ∀ c ∈ L, okC c = true := by
  unfold okL at h
  simp only [Bool.and_eq_true, decide_eq_true_eq, List.all_eq_true] at h
  exact h
theorem ltx_len (L : List (List RA)) : (ltx L).length ≤ 6000 := by
  unfold ltx
  split
  · next h =>
    have h9 := okL_len h
    have := join_le [44, 32] 486 (L.map ctx) (fun x hx => by
      obtain ⟨c, hc, rfl⟩ := List.mem_map.1 hx
      exact ctx_len (okC_len (h9.2 c hc)).2.1)
    rw [List.length_map] at this
    have h2 : L.length * 488 ≤ 12 * 488 := Nat.mul_le_mul_right _ h9.1
    have h3 : (Lib.join (L.map ctx) [44, 32]).length ≤ L.length * 488 := this
    omega
  · exact Nat.zero_le _
theorem join_any {w : World} {base c : Nat} {A : Option Addr} (xs : List Rl.Bs) (sep : ByteArray) (n : Nat) (hn : xs.length = n) (h : w.ownsRow base 9 1 (.slice A n c) n (xs.map (fun x => Value.string (Rl.tob x)))) (hN : n ≤ 1000) (hlen : (Lib.join xs (bl sep)).length ≤ 1048576) :
    Calls Try.prog 35 #[.slice A n c, .string sep] w fun e w' => e = .returned (.string (Rl.tob (Lib.join xs (bl sep)))) ∧ Below w.heap.size w w' := by
  subst hn
  rcases h.2 with ⟨h9, h8⟩ | ⟨g, cap, cur, h9, hg, hh, hle, _⟩
  · have e : xs = [] := List.eq_nil_of_length_eq_zero h8
    subst e
    exact (Try.strings_Join_none A c sep w).mono fun e w' ⟨he, hw⟩ => ⟨he, by rw [hw]; exact Below.refl _ _⟩
  · injection h9 with h1 h2 h3
    subst h1 h3
    have hj := Try.strings_Join g 0 c (xs.map Rl.tob) sep w (fun j x hx => by
      have hjl : j < xs.length := by
        have := (List.getElem?_eq_some_iff.1 hx).1
        simpa using this
      rw [Nat.zero_add, h.cellAt j (by omega)]
      rw [List.getElem?_map] at hx ⊢
      rw [List.getElem?_eq_getElem hjl] at hx ⊢
      injection hx with hx
      rw [← hx]; rfl) (Blk.lt hh) (by rw [List.length_map]; omega) (by rw [List.length_map]; exact hle) (by
        have e : (xs.map Rl.tob).map (fun x => x.data.toList) = xs := by rw [List.map_map]; exact List.map_id' _
        rw [e]
        exact Nat.le_trans hlen (by omega))
    rw [List.length_map] at hj
    have e : (xs.map Rl.tob).map (fun x => x.data.toList) = xs := by rw [List.map_map]; exact List.map_id' _
    rw [e] at hj
    exact hj
theorem ltx_bad {L : List (List RA)} (h : okL L = false) : Rl.tob (ltx L) = ⟨#[]⟩ := by unfold ltx; rw [h]; rfl
theorem okL_at {L : List (List RA)} {j : Nat} (hj : j < L.length) (h : okC L[j] = false) : okL L = false := by
  cases h9 : okL L with
  | false => rfl
  | true => rw [(okL_len h9).2 _ (List.getElem_mem hj)] at h; cases h
theorem okC_at {c : List RA} {j : Nat} (hj : j < c.length) (h : mayR c[j] = false) : okC c = false := by
  cases h9 : okC c with
  | false => rfl
  | true => rw [(okC_len h9).2.2 _ (List.getElem_mem hj)] at h; cases h
theorem okL_all {L : List (List RA)} (hl : L.length ≤ 12) (h : ∀ j (hj : j < L.length), okC L[j] = true) : okL L = true := by
  unfold okL
  rw [decide_eq_true hl, Bool.true_and, List.all_eq_true]
  intro c hc
  obtain ⟨j, hj, rfl⟩ := List.mem_iff_getElem.1 hc
  exact h j hj
theorem okC_all {c : List RA} (h1 : 1 ≤ c.length) (h6 : c.length ≤ 6) (h : ∀ j (hj : j < c.length), mayR c[j] = true) : okC c = true := by
  unfold okC
  rw [decide_eq_true h1, decide_eq_true h6, Bool.true_and, Bool.true_and, List.all_eq_true]
  intro a ha
  obtain ⟨j, hj, rfl⟩ := List.mem_iff_getElem.1 ha
  exact h j hj
theorem own_later {w w' : World} {base : Nat} {e : TypeId} {size n : Nat} {v : Value} {xs : List Value} (h : w.ownsRow base e size v n xs) (hb : Below w.heap.size w w') : w'.ownsRow base e size v n xs := by
  refine ⟨h.1, ?_⟩
  rcases h.2 with h2 | ⟨g, cap, cur, hv, hg, hh, h3⟩
  · exact .inl h2
  · exact .inr ⟨g, cap, cur, hv, hg, (hb.block g (Blk.lt hh)).trans hh, h3⟩
theorem take_map_succ {α β : Type} (f : α → β) (L : List α) (i : Nat) (hi : i < L.length) : (L.take (i + 1)).map f = (L.take i).map f ++ [f L[i]] := by
  rw [List.take_succ_eq_append_getElem hi, List.map_append]; rfl
set_option maxRecDepth 100000 in
set_option maxHeartbeats 16000000 in
theorem Text_any (v : Value) (L : List (List RA)) (w : World) (h : ClsAt w v L) (hsz : ∀ c ∈ L, ∀ a ∈ c, a.n.size ≤ 1048576 ∧ a.v.size ≤ 1048576) :
    Calls Try.prog 14 #[v] w fun e w' => e = .returned (.string (Rl.tob (ltx L))) ∧ Below w.heap.size w w' := by
  obtain ⟨i0, hi0, hz0, hz1, hz2⟩ := info_parts str_row
  obtain ⟨A, cA, rfl, hcA, hA⟩ := h
  obtain ⟨X, hX⟩ : ∃ X, X = Rl.tob (ltx L) := ⟨_, rfl⟩
  have HBAD : Hid (∀ j (h : j < L.length), okC L[j] = false → X = ⟨#[]⟩) := Lib.hid (fun j hj h => by rw [hX]; exact ltx_bad (okL_at hj h))
  have HMANY : Hid (12 < L.length → X = ⟨#[]⟩) := Lib.hid (fun h => by rw [hX]; exact ltx_bad (by unfold okL; rw [decide_eq_false (by omega)]; rfl))
  have HOK : Hid (L.length ≤ 12 → (∀ j (h : j < L.length), okC L[j] = true) → X = Rl.tob (Lib.join (L.map ctx) [44, 32]) ∧ (Lib.join (L.map ctx) [44, 32]).length ≤ 6000) := Lib.hid (fun h1 h2 => by
    have h9 := ltx_len L
    have e : ltx L = Lib.join (L.map ctx) [44, 32] := by unfold ltx; rw [if_pos (okL_all h1 h2)]
    rw [e] at hX h9
    exact ⟨hX, h9⟩)
  rw [← hX]
  obtain ⟨n, hn⟩ : ∃ n, n = L.length := ⟨_, rfl⟩
  rw [← hn]
  have HN := Lib.hid hn
  have HA := Lib.hid hA
  have HSZ := Lib.hid hsz
  clear hX hn hA hsz hcA
  go_enter Try.func14, Try.ntmps14
  by_cases h12 : n ≤ 12
  case neg =>
    have q : (12 : Int) < (n : Int) := by omega
    have HR := Lib.hid (HMANY.out (by rw [← HN.out]; omega))
    clear h12
    go_wp2_with fail
    go_ret
    exact ⟨by rw [HR.out]; rfl, Below.refl _ _⟩
  have q : ¬ (12 : Int) < (n : Int) := by omega
  go_wp2_with fail
  go_loopw [3, 14] (fun u t wr => ∃ (i co : Nat) (Ao : Option Addr), u = .slice Ao i co ∧ t = .int .i64 (i : Int) ∧ i ≤ n ∧ Hid (wr.ownsRow w.heap.size 9 1 (.slice Ao i co) i ((L.take i).map (fun c => Value.string (Rl.tob (ctx c))))) ∧ Hid (∀ j (h : j < L.length), j < i → okC L[j] = true) ∧ Hid (Below w.heap.size w wr)) (fun _ t _ => n - (match t with | .int _ x => x.toNat | _ => 0))
  case atStart => exact ⟨0, 0, none, rfl, rfl, Nat.zero_le _, Lib.hid (World.ownsRow_nil _ _ _ _), Lib.hid (fun j _ hj => by omega), Lib.hid (Below.refl _ _)⟩
  case round =>
    obtain ⟨i, co, Ao, rfl, rfl, hi, HO, HI, HB⟩ := hrel
    by_cases hlt : i < n
    case neg =>
      have hin : i = n := by omega
      have hok := HOK.out (by have := HN.out; omega) (fun j hj => HI.out j hj (by have := HN.out; omega))
      have HR := Lib.hid hok.1
      have hrow : wr.ownsRow w.heap.size 9 1 (.slice Ao i co) i ((L.map ctx).map (fun x => Value.string (Rl.tob x))) := by
        have := HO.out
        rw [List.take_of_length_le (by have := HN.out; omega)] at this
        rw [List.map_map]; exact this
      have HJ := Lib.hid (join_any (L.map ctx) ⟨#[44, 32]⟩ i (by rw [List.length_map]; have := HN.out; omega) hrow (by omega) (Nat.le_trans hok.2 (by omega)))
      have hnn : ¬ (i : Int) < (n : Int) := by omega
      clear hok hrow hin
      go_wp2_with (go_at_call 35; refine HJ.out.mono ?_; rintro e w2 ⟨rfl, hb2⟩)
      go_ret
      exact ⟨by rw [HR.out]; rfl, HB.out.trans (hb2.mono HB.out.size)⟩
    obtain ⟨g, o, V, e1, a1, hats⟩ := HA.out i (by have := HN.out; omega)
    obtain ⟨B, cB, hV, hcB, hB⟩ := hats
    subst e1
    have hil : i < L.length := by have := HN.out; omega
    have hok := HBAD.out i hil
    have hczs := HSZ.out (L[i]'hil) (List.getElem_mem hil)
    have htk := take_map_succ (fun c => Value.string (Rl.tob (ctx c))) L i (by have := HN.out; omega)
    obtain ⟨c, hc⟩ : ∃ c, c = L[i]'(by have := HN.out; omega) := ⟨_, rfl⟩
    rw [← hc] at hok hczs hV hB htk
    have hi1 : ∀ j (h : j < L.length), okC c = true → j < i + 1 → okC L[j] = true := fun j h h9 hj => by
      by_cases e : j = i
      · subst e; rw [← hc]; exact h9
      · exact HI.out j h (by omega)
    have HI1 := Lib.hid hi1
    have HBD := Lib.hid hok
    have HCS := Lib.hid hczs
    have HTK := Lib.hid htk
    obtain ⟨k, hk⟩ : ∃ k, k = c.length := ⟨_, rfl⟩
    rw [← hk] at hV
    rw [hV] at a1
    have ka := (HB.out.cell (World.block_lt_of_cell? w _ a1)).trans a1
    have HK := Lib.hid hk
    have HBB := Lib.hid hB
    have hln : (i : Int) < (n : Int) := by omega
    clear hok hczs htk hc hil hi1 hk hV a1 hB hcB
    by_cases hk1 : 1 ≤ k
    case neg =>
      have q0 : ((k : Int) == 0) = true := by rw [beq_iff_eq]; omega
      have HR := Lib.hid (HBD.out (by unfold okC; rw [← HK.out, decide_eq_false (by omega)]; rfl))
      clear hk1
      go_wp2_with fail
      go_ret
      exact ⟨by rw [HR.out]; rfl, HB.out⟩
    have q0 : ((k : Int) == 0) = false := by rw [beq_eq_false_iff_ne]; omega
    by_cases hk6 : k ≤ 6
    case neg =>
      have q6 : decide ((6 : Int) < (k : Int)) = true := decide_eq_true (by omega)
      have HR := Lib.hid (HBD.out (by unfold okC; rw [← HK.out, decide_eq_false hk6]; simp))
      clear hk1 hk6
      go_wp2_with fail
      go_ret
      exact ⟨by rw [HR.out]; rfl, HB.out⟩
    have q6 : decide ((6 : Int) < (k : Int)) = false := decide_eq_false (by omega)
    go_wp2_with fail
    clear ka
    obtain ⟨wo, rfl⟩ : ∃ wo : World, wo = wr := ⟨_, rfl⟩
    go_loopw [6, 28] (fun u t wr => ∃ (j bo : Nat) (Bo : Option Addr), u = .slice Bo j bo ∧ t = .int .i64 (j : Int) ∧ j ≤ k ∧ Hid (wr.ownsRow wo.heap.size 9 1 (.slice Bo j bo) j ((c.take j).map (fun a => Value.string (Rl.tob (atx a))))) ∧ Hid (∀ m (h : m < c.length), m < j → mayR c[m] = true) ∧ Hid (Below wo.heap.size wo wr)) (fun _ t _ => k - (match t with | .int _ x => x.toNat | _ => 0))
    case atStart => exact ⟨0, 0, none, rfl, rfl, Nat.zero_le _, Lib.hid (World.ownsRow_nil _ _ _ _), Lib.hid (fun j _ hj => by omega), Lib.hid (Below.refl _ _)⟩
    case round =>
      obtain ⟨j, bo, Bo, rfl, rfl, hj, HOI, HMI, HBI⟩ := hrel
      by_cases hjk : j < k
      case neg =>
        have hcok := okC_all (c := c) (by have := HK.out; omega) (by have := HK.out; omega) (fun m hm => HMI.out m hm (by have := HK.out; omega))
        have HI2 := Lib.hid (fun j h hj => HI1.out j h hcok hj)
        have hrow : wr.ownsRow wo.heap.size 9 1 (.slice Bo j bo) j ((c.map atx).map (fun x => Value.string (Rl.tob x))) := by
          have := HOI.out
          rw [List.take_of_length_le (by have := HK.out; omega)] at this
          rw [List.map_map]; exact this
        have hJ := join_any (c.map atx) ⟨#[32, 124, 32]⟩ j (by rw [List.length_map]; have := HK.out; omega) hrow (by omega) (Nat.le_trans (ctx_len (by have := HK.out; omega)) (by omega))
        have hJ2 : Calls Try.prog 35 #[.slice Bo j bo, .string ⟨#[32, 124, 32]⟩] wr fun e w' => e = .returned (.string (Rl.tob (ctx c))) ∧ Below wr.heap.size wr w' := hJ
        obtain ⟨Y, hY⟩ : ∃ Y, Y = Rl.tob (ctx c) := ⟨_, rfl⟩
        rw [← hY] at hJ2
        have HTK2 : Hid ((L.take (i + 1)).map (fun c => Value.string (Rl.tob (ctx c))) = (L.take i).map (fun c => Value.string (Rl.tob (ctx c))) ++ [Value.string Y]) := Lib.hid (by rw [hY]; exact HTK.out)
        have HJ := Lib.hid hJ2
        have hjn : ¬ (j : Int) < (k : Int) := by omega
        have hwz := HB.out.size
        have hwz1 := HBI.out.size
        clear hcok hrow hJ hJ2 hY
        go_wp2_with (first
          | (go_at_call 35; refine HJ.out.mono ?_; rintro e w2 ⟨rfl, hb2⟩; have HB2 := Lib.hid (HBI.out.trans (hb2.mono HBI.out.size)); have HO2 := Lib.hid (own_later HO.out HB2.out); have hw2 := hb2.size; clear hb2)
          | (at_builtin; refine wpList_append_any _ rfl (.tmp 41) (.tmp 44) 33 rfl w.heap.size 9 i0 _ 1 16 Try.underlying33 hi0 hz0 hz1 hz2 rfl (by decide) _ i _ rfl (HO2.out.alloc _) (w2.heap.size + 1) (some ⟨w2.heap.size, 0, none⟩) 1 1 [.string Y] rfl (reads_one (Blk.new w2 _ _) (by simp)) (fun u hu => by simp at hu; subst hu; rfl) (by unfold maxLen; omega) (by omega) (by simp; omega) ?_; intro v5 w5 hown5 hg5 hat5; have hup5 : Upd (fun j => (Value.slice Ao i co).ownBlock = some j) w2 w5 := ((Upd.refl _ w2).alloc _).grown hg5 (fun j hj => .inl hj); have HB5 := Lib.hid ((HB.out.trans (HB2.out.mono HB.out.size)).trans (hup5.below (fun j hj => (own_is HO2.out hj).1) (by omega))); obtain ⟨A5, c5, rfl⟩ := own_shape hown5; have HOW5 := Lib.hid hown5; clear hown5 hg5 hat5 hup5))
        refine ⟨⟨i + 1, c5, A5, rfl, by go_num, by omega, Lib.hid (by rw [HTK2.out]; exact HOW5.out), HI2, HB5⟩, ?_⟩
        show n - ((i : Int) + 1).toNat < n - (i : Int).toNat
        omega
      obtain ⟨b2, o2, e2, a4, a5, a6⟩ := HBB.out j (by have := HK.out; omega)
      subst e2
      have hjl0 : j < c.length := by have := HK.out; omega
      have hasz := HCS.out (c[j]'hjl0) (List.getElem_mem hjl0)
      have hmb := fun (hh : mayR c[j] = false) => HBD.out (okC_at hjl0 hh)
      have htk := take_map_succ (fun a => Value.string (Rl.tob (atx a))) c j (by have := HK.out; omega)
      obtain ⟨a, ha⟩ : ∃ a, a = c[j]'(by have := HK.out; omega) := ⟨_, rfl⟩
      rw [← ha] at hasz hmb htk a4 a5 a6
      have hm1 : mayR a = true → ∀ m (h : m < c.length), m < j + 1 → mayR c[m] = true := fun h9 m h hm => by
        by_cases e : m = j
        · subst e; rw [← ha]; exact h9
        · exact HMI.out m h (by omega)
      have HM1 := Lib.hid hm1
      have hbz : Below w.heap.size w wr := HB.out.trans (HBI.out.mono HB.out.size)
      have ka := (hbz.cell (World.block_lt_of_cell? w _ a4)).trans a4
      have kb := (hbz.cell (World.block_lt_of_cell? w _ a5)).trans a5
      have kc := (hbz.cell (World.block_lt_of_cell? w _ a6)).trans a6
      have HMAY : Hid (∀ W, Calls Try.prog 22 #[.agg #[.string a.n, .int .i64 a.r, .string a.v]] W fun e w' => e = .returned (.bool (mayR a)) ∧ Below W.heap.size W w') := Lib.hid (fun W => may_any a.n a.r a.v W hasz.1 hasz.2)
      have HATM : Hid (∀ W, Calls Try.prog 20 #[.agg #[.string a.n, .int .i64 a.r, .string a.v]] W fun e w' => e = .returned (.string (Rl.tob (atx a))) ∧ Below W.heap.size W w') := Lib.hid (fun W => Atom_any a W hasz.1 hasz.2)
      obtain ⟨Y, hY⟩ : ∃ Y, Y = Rl.tob (atx a) := ⟨_, rfl⟩
      rw [← hY] at HATM htk
      have HTK2 := Lib.hid htk
      have HMB := Lib.hid hmb
      obtain ⟨my, hmy⟩ : ∃ my, my = mayR a := ⟨_, rfl⟩
      rw [← hmy] at HMB HMAY HM1
      obtain ⟨an, ar, av⟩ := a
      simp only at ka kb kc HMAY HATM
      have hjl : (j : Int) < (k : Int) := by omega
      have hbk := Blk.new wr 38 #[.string an, .int .i64 ar, .string av]
      have HBK := Lib.hid hbk
      have HBZ := Lib.hid hbz
      have hba : Below wr.heap.size wr (wr.alloc (.cells #[.string an, .int .i64 ar, .string av] 38)) := (Below.refl _ _).alloc (Nat.le_refl _) _
      have HBA := Lib.hid hba
      have hwz := HB.out.size
      have hwz1 := HBI.out.size
      clear hjl0 a4 a5 a6 hasz hmb htk ha hm1 hY hmy hbk hbz hba
      cases my with
      | false =>
        have HR := Lib.hid (HMB.out rfl)
        go_wp2_with (go_at_call 22; refine (HMAY.out _).mono ?_; rintro e w2 ⟨rfl, hb2⟩)
        go_ret
        exact ⟨by rw [HR.out]; rfl, HBZ.out.trans ((HBA.out.trans (hb2.mono HBA.out.size)).mono HBZ.out.size)⟩
      | true =>
        have HM2 := Lib.hid (HM1.out rfl)
        clear HMB HM1
        go_wp2_with (first
          | (go_at_call 22; refine (HMAY.out _).mono ?_; rintro e w2 ⟨rfl, hb2⟩; have hbk2 := HBK.out.below hb2 HBK.out.lt; have k0 : w2.cell? ⟨wr.heap.size, 0, none⟩ = some (.string an) := hbk2.cell 0; have k1 : w2.cell? ⟨wr.heap.size, 1, none⟩ = some (.int .i64 ar) := hbk2.cell 1; have k2 : w2.cell? ⟨wr.heap.size, 2, none⟩ = some (.string av) := hbk2.cell 2; have HB2 := Lib.hid (HBA.out.trans (hb2.mono HBA.out.size)); clear hb2 hbk2)
          | (go_at_call 20; refine (HATM.out _).mono ?_; rintro e w3 ⟨rfl, hb3⟩; have HB3 := Lib.hid (HB2.out.trans (hb3.mono HB2.out.size)); have HO3 := Lib.hid (own_later HOI.out HB3.out); have hw3 := HB3.out.size; clear hb3)
          | (at_builtin; refine wpList_append_any _ rfl (.tmp 35) (.tmp 38) 33 rfl wo.heap.size 9 i0 _ 1 16 Try.underlying33 hi0 hz0 hz1 hz2 rfl (by decide) _ j _ rfl (HO3.out.alloc _) (w3.heap.size + 1) (some ⟨w3.heap.size, 0, none⟩) 1 1 [.string Y] rfl (reads_one (Blk.new w3 _ _) (by simp)) (fun u hu => by simp at hu; subst hu; rfl) (by unfold maxLen; omega) (by omega) (by simp; omega) ?_; intro v5 w5 hown5 hg5 hat5; have hup5 : Upd (fun m => (Value.slice Bo j bo).ownBlock = some m) w3 w5 := ((Upd.refl _ w3).alloc _).grown hg5 (fun m hm => .inl hm); have HB5 := Lib.hid ((HBI.out.trans (HB3.out.mono HBI.out.size)).trans (hup5.below (fun m hm => (own_is HO3.out hm).1) (by omega))); obtain ⟨A5, c5, rfl⟩ := own_shape hown5; have HOW5 := Lib.hid hown5; clear hown5 hg5 hat5 hup5))
        refine ⟨⟨j + 1, c5, A5, rfl, by go_num, by omega, Lib.hid (by rw [HTK2.out]; exact HOW5.out), HM2, HB5⟩, ?_⟩
        show k - ((j : Int) + 1).toNat < k - (j : Int).toNat
        omega
end Go.Proofs.Ytdchnllflodmkaa
