/- TextLong: the walk. -/
import Derived.Test.YtdchnllflodmkaaDoorRefLines
import Derived.Test.YtdchnllflodmkaaDoorRows
import Derived.Test.YtdchnllflodmkaaDoorOpen
import Derived.OpenShut
import Derived.Laws.OwnMore
import Derived.Test.YtdchnllflodmkaaDoorGrow
import Derived.Laws.MakeOwn
namespace Go.Proofs.YtdchnllflodmkaaDoor
open Go.RowKit Go.Shelf Go.Lib
set_option linter.unusedVariables false

/-- Lines of 499 bytes. -/
def pat (k : Nat) : List Nat := (List.range k).map fun i => if i % 500 = 499 then 10 else 97
theorem pat_len (k : Nat) : (pat k).length = k := by simp [pat]
theorem pat_succ (k : Nat) : pat (k + 1) = pat k ++ [if k % 500 = 499 then 10 else 97] := by simp [pat, List.range_succ]
theorem pat_lt (k : Nat) : ∀ x ∈ pat k, x < 256 := fun x hx => by
  obtain ⟨i, _, rfl⟩ := List.mem_map.1 hx
  split <;> omega
theorem rl_short : ∀ (t cur : List UInt8) (i : Nat), (∀ j (hj : j < t.length), t[j] = 10 ↔ (i + j) % 500 = 499) → cur.length = i % 500 → ∀ x ∈ rl t cur, x.length ≤ 499
  | [], cur, i, _, hc, x, hx => by
    change x ∈ (if cur = [] then [] else [cur]) at hx
    split at hx
    · cases hx
    · cases hx with
      | head => omega
      | tail _ h => cases h
  | c :: t, cur, i, h, hc, x, hx => by
    have h0 := h 0 (by simp)
    have e0 : (c :: t)[0] = c := rfl
    rw [e0, Nat.add_zero] at h0
    have hn : ∀ j (hj : j < t.length), t[j] = 10 ↔ (i + 1 + j) % 500 = 499 := fun j hj => by
      have := h (j + 1) (by simp; omega)
      have e1 : (c :: t)[j + 1]'(by simp; omega) = t[j] := rfl
      rw [e1, show i + (j + 1) = i + 1 + j by omega] at this
      exact this
    change x ∈ (if c = 10 then cur :: rl t [] else rl t (cur ++ [c])) at hx
    split at hx
    · rename_i hc10
      have h9 := h0.1 hc10
      cases hx with
      | head => omega
      | tail _ hx => exact rl_short t [] (i + 1) hn (by simp; omega) x hx
    · rename_i hc10
      have h9 : ¬ i % 500 = 499 := fun e => hc10 (h0.2 e)
      exact rl_short t (cur ++ [c]) (i + 1) hn (by rw [List.length_append]; simp; omega) x hx
theorem chk_short : ∀ (l : List ByteArray) (i : Nat), (∀ x ∈ l, x.size ≤ 1000) → (chk l i).1 ≠ 2
  | [], i, _ => by show (0 : Nat) ≠ 2; omega
  | x :: r, i, h => by
    have h1 := h x (by simp)
    unfold chk
    rw [if_neg (by omega)]
    split
    · show (3 : Nat) ≠ 2; omega
    · exact chk_short r (i + 1) fun y hy => h y (by simp [hy])
theorem pat_err (k : Nat) (hk : k ≤ 65536) : (linesErr (toS (pat k))).1 ≠ 2 := by
  have hz : (toS (pat k)).size = k := by rw [toS_size, pat_len]
  unfold linesErr
  rw [if_neg (by omega)]
  refine chk_short _ _ fun x hx => ?_
  unfold linesOf at hx
  obtain ⟨y, hy, rfl⟩ := List.mem_map.1 hx
  have e : bl (toS (pat k)) = (pat k).map UInt8.ofNat := by simp [toS, bl]
  rw [e] at hy
  have := rl_short _ [] 0 (fun j hj => by
    rw [List.getElem_map, Nat.zero_add]
    simp only [List.length_map, pat_len] at hj
    have e2 : (pat k)[j]'(by rw [pat_len]; exact hj) = if j % 500 = 499 then 10 else 97 := by simp [pat]
    rw [e2]
    split
    · simp_all
    · rename_i h; simp [h]) rfl y hy
  show y.length ≤ 1000
  omega
def u8s (bs : List Nat) : List Value := bs.map fun x => Value.int .u8 ((x : Nat) : Int)
theorem u8s_snoc (bs : List Nat) (x : Nat) : u8s (bs ++ [x]) = u8s bs ++ [Value.int .u8 (x : Int)] := by simp [u8s]
theorem own_bytes {w : World} {base : Nat} {v : Value} {bs : List Nat} {n : Nat} (h : w.ownsRow base 5 1 v n (u8s bs)) (hb : ∀ x ∈ bs, x < 256) : ∃ A c, v = .slice A n c ∧ Bytes w A n bs ∧ n ≤ c := by
  have hl : bs.length = n := by have := h.1; simpa [u8s] using this
  rcases h.2 with ⟨rfl, hn⟩ | ⟨g, cap, cur, rfl, hbg, hg, hnc, hcm, hcs, htake⟩
  · subst hn
    have e : bs = [] := List.eq_nil_of_length_eq_zero hl
    subst e
    exact ⟨none, 0, rfl, Bytes.nil w, Nat.le_refl _⟩
  · refine ⟨some ⟨g, 0, none⟩, cap, rfl, ⟨hl, hb, fun h0 => ⟨g, 0, rfl, Blk.lt hg, fun k hk => ?_⟩⟩, hnc⟩
    rw [Nat.zero_add, h.cellAt k (by omega)]
    unfold u8s
    rw [List.getElem?_map, List.getElem?_eq_getElem (by omega), List.getD_eq_getElem?_getD, List.getElem?_eq_getElem (by omega)]
    rfl
theorem byte_info : (Tryd.prog.info? 5).map (fun i => (i.zero, i.size, i.bytes)) = some (some (.int .u8 0), 1, 1) := by kernel_rfl
theorem one_u8 (x : Int) : ∀ u ∈ [Value.int .u8 x], u.oneCell' = true := fun u hu => by simp at hu; subst hu; rfl
theorem own_later {w w' : World} {base : Nat} {e : TypeId} {size n : Nat} {v : Value} {xs : List Value} (h : w.ownsRow base e size v n xs) (hb : Below w.heap.size w w') : w'.ownsRow base e size v n xs := by
  refine ⟨h.1, ?_⟩
  rcases h.2 with h2 | ⟨g, cap, cur, hv, hg, hh, h3⟩
  · exact .inl h2
  · exact .inr ⟨g, cap, cur, hv, hg, (hb.block g (Blk.lt hh)).trans hh, h3⟩
theorem u8s_one (bs : List Nat) : ∀ u ∈ u8s bs, u.oneCell' = true := fun u hu => by
  obtain ⟨x, _, rfl⟩ := List.mem_map.1 hu
  rfl
theorem u8s_set (bs : List Nat) (i x : Nat) : (u8s bs).set i (.int .u8 (x : Int)) = u8s (bs.set i x) := by simp [u8s, List.map_set]
theorem set_lt {bs : List Nat} (h : ∀ x ∈ bs, x < 256) (i y : Nat) (hy : y < 256) : ∀ x ∈ bs.set i y, x < 256 := fun x hx => by
  rcases List.mem_or_eq_of_mem_set hx with h1 | h1
  · exact h x h1
  · omega
theorem make_u8 (n : Nat) (hn : n ≤ 1048576) (base : Nat) (W : World) (hb : base ≤ W.heap.size) : ∃ W', (Instr.makeSlice 29 (.int .i64 (n : Int)) (.int .i64 (n : Int))).run Tryd.prog W = .ok (.slice (some ⟨W.heap.size, 0, none⟩) n n) W' ∧ W'.ownsRow base 5 1 (.slice (some ⟨W.heap.size, 0, none⟩) n n) n (u8s (List.replicate n 0)) ∧ W.grownBy W' none := by
  obtain ⟨i0, hi0, hz0, hz1, hz2⟩ := info_parts byte_info
  have h := run_make_full (P := Tryd.prog) W base 29 5 i0 (.int .u8 0) 1 Tryd.underlying29 hi0 hz0 hz1 .i64 .i64 n (by rw [hz2]; omega) (by unfold maxLen; omega) hb
  have e : (madeCells (Value.int .u8 0).cells (n * 1)).toList = u8s (List.replicate n 0) := by
    rw [Nat.mul_one, show (Value.int .u8 0).cells = #[Value.int .u8 0] from rfl, toList_madeCells_one]
    simp [u8s]
  rwa [e] at h
theorem u8_cell {w : World} {base g n c : Nat} {bs : List Nat} (h : w.ownsRow base 5 1 (.slice (some ⟨g, 0, none⟩) n c) n (u8s bs)) {i : Nat} (hi : i < n) : w.cell? ⟨g, i, none⟩ = some (.int .u8 ((bs.getD i 0 : Nat) : Int)) := by
  have hl : bs.length = n := by have := h.1; simpa [u8s] using this
  rw [h.cellAt i (by omega)]
  unfold u8s
  rw [List.getElem?_map, List.getElem?_eq_getElem (by omega), List.getD_eq_getElem?_getD, List.getElem?_eq_getElem (by omega)]
  rfl
theorem rl_most : ∀ (t cur : List UInt8), (rl t cur).length ≤ t.length + 1
  | [], cur => by
    show (if cur = [] then [] else [cur]).length ≤ _
    split <;> simp
  | c :: t, cur => by
    show (if c = 10 then cur :: rl t [] else rl t (cur ++ [c])).length ≤ _
    have h1 := rl_most t []
    have h2 := rl_most t (cur ++ [c])
    rw [List.length_cons]
    split
    · rw [List.length_cons]; omega
    · omega
theorem got_le (s : ByteArray) : (linesGot s).length ≤ s.size + 1 := by
  unfold linesGot
  split
  · unfold linesOf
    rw [List.length_map]
    exact rl_most (bl s) []
  · simp
theorem own_zero {w : World} {base : Nat} {A : Option Addr} {c k : Nat} (h : w.ownsRow base 5 1 (.slice A k c) k (u8s (pat k))) : Bytes w A k (pat k) ∧ k ≤ c := by
  obtain ⟨A', c', hv, hby, hcap⟩ := own_bytes h (pat_lt k)
  cases hv
  exact ⟨hby, hcap⟩
set_option maxRecDepth 100000 in
set_option maxHeartbeats 1000000 in
theorem textLong_any (m1 m2 : Int) (bad : Bool) (w : World) (hT : Lib.Utf8Tabs 0 1 w) (hM : MaxLenAt w) :
    Calls Tryd.prog 10 #[.int .i64 m1, .int .i64 m2, .bool bad] w fun e w' => e = .returned (.bool true) ∧ Below w.heap.size w w' := by
  obtain ⟨i0, hi0, hz0, hz1, hz2⟩ := info_parts byte_info
  have HT := Lib.hid hT
  have HM := Lib.hid hM
  clear hT hM
  obtain ⟨N, hN, hN5⟩ := small_k m1 5 (by omega) (by omega)
  obtain ⟨K, hK, hK5⟩ := small_k m2 5 (by omega) (by omega)
  have hN' : (IntKind.u64.wrap m1).tmod 5 = (N : Int) := hN
  have hK' : (IntKind.u64.wrap m2).tmod 5 = (K : Int) := hK
  clear hN hK
  obtain ⟨wo, rfl⟩ : ∃ wo : World, wo = w := ⟨_, rfl⟩
  go_enter Tryd.func10, Tryd.ntmps10
  go_wp2_with fail
  clear hN' hK'
  go_loopw [7] (fun v wr => ∃ (k : Nat) (A : Option Addr) (c : Nat), v = .slice A k c ∧ Hid (wr.ownsRow wo.heap.size 5 1 (.slice A k c) k (u8s (pat k))) ∧ Hid (Below wo.heap.size wo wr) ∧ k ≤ 65533 + N ∧ k % 500 ≠ 499) (fun v _ => 65533 + N - (match v with | .slice _ n _ => n | _ => 0))
  case atStart => exact ⟨0, none, 0, rfl, Lib.hid (World.ownsRow_nil _ _ _ _), Lib.hid (Below.refl _ _), by omega, by omega⟩
  case round =>
    obtain ⟨k, A, c, rfl, HO, HB, hk, hk5⟩ := hrel
    have hsz := HB.out.size
    obtain ⟨w0, rfl⟩ : ∃ w0 : World, w0 = wr := ⟨_, rfl⟩
    by_cases hlt : k < 65533 + N
    · have hlt' : (k : Int) < 65533 + (N : Int) := by omega
      have HP1 : Hid (pat (k + 1) = pat k ++ [97]) := Lib.hid (by rw [pat_succ, if_neg hk5])
      by_cases h4 : (k + 1) % 500 = 499
      · have q1 : (((k : Int) + 1) % 500 == 499) = true := beq_iff_eq.2 (by omega)
        have HP2 : Hid (pat (k + 1 + 1) = pat (k + 1) ++ [10]) := Lib.hid (by rw [pat_succ, if_pos h4])
        have HNX := Lib.hid (show k + 1 + 1 ≤ 65533 + N ∧ (k + 1 + 1) % 500 ≠ 499 by omega)
        clear h4 hk5
        go_wp2_with (first | (at_builtin; refine wpList_append_own _ rfl (.tmp 29) (.tmp 30) 29 rfl wo.heap.size 5 i0 (.int .u8 0) 1 1 Tryd.underlying29 hi0 hz0 hz1 hz2 rfl (by decide) _ k _ rfl (HO.out.alloc _) ⟨w0.heap.size, 0, none⟩ 1 1 [.int .u8 97] rfl rfl (cell_one_new _ _ _) (one_u8 _) (by unfold maxLen; omega) (by omega) (by simp; omega) ?_; intro v1 w1 hown1 hg1 hn1; have HB1 : Hid (Below wo.heap.size wo w1) := Lib.hid ((HB.out.alloc hsz _).grown hg1 (by simp; omega) (fun q hq => (HO.out.lt q hq).1)); obtain ⟨A1, c1, rfl⟩ := row_shape hown1; have HO1 : Hid (w1.ownsRow wo.heap.size 5 1 (.slice A1 (k + 1) c1) (k + 1) (u8s (pat (k + 1)))) := Lib.hid (by rw [HP1.out, u8s_snoc]; exact hown1); clear hown1 hg1 hn1) | (at_builtin; refine wpList_append_own _ rfl (.tmp 36) (.tmp 37) 29 rfl wo.heap.size 5 i0 (.int .u8 0) 1 1 Tryd.underlying29 hi0 hz0 hz1 hz2 rfl (by decide) _ (k + 1) _ rfl (HO1.out.alloc _) ⟨w1.heap.size, 0, none⟩ 1 1 [.int .u8 10] rfl rfl (cell_one_new _ _ _) (one_u8 _) (by unfold maxLen; omega) (by omega) (by have := HB1.out.size; simp; omega) ?_; intro v2 w2 hown2 hg2 hn2; have HB2 : Hid (Below wo.heap.size wo w2) := Lib.hid ((HB1.out.alloc HB1.out.size _).grown hg2 (by have := HB1.out.size; simp; omega) (fun q hq => (HO1.out.lt q hq).1)); obtain ⟨A2, c2, rfl⟩ := row_shape hown2; have HO2 : Hid (w2.ownsRow wo.heap.size 5 1 (.slice A2 (k + 1 + 1) c2) (k + 1 + 1) (u8s (pat (k + 1 + 1)))) := Lib.hid (by rw [HP2.out, u8s_snoc]; exact hown2); clear hown2 hg2 hn2))
        refine ⟨⟨k + 1 + 1, A2, c2, rfl, HO2, HB2, HNX.out.1, HNX.out.2⟩, ?_⟩
        show 65533 + N - (k + 1 + 1) < 65533 + N - k
        omega
      · have q1 : (((k : Int) + 1) % 500 == 499) = false := beq_eq_false_iff_ne.2 (by omega)
        have HNX := Lib.hid (show k + 1 ≤ 65533 + N ∧ (k + 1) % 500 ≠ 499 by omega)
        clear h4 hk5
        go_wp2_with (at_builtin; refine wpList_append_own _ rfl (.tmp 29) (.tmp 30) 29 rfl wo.heap.size 5 i0 (.int .u8 0) 1 1 Tryd.underlying29 hi0 hz0 hz1 hz2 rfl (by decide) _ k _ rfl (HO.out.alloc _) ⟨w0.heap.size, 0, none⟩ 1 1 [.int .u8 97] rfl rfl (cell_one_new _ _ _) (one_u8 _) (by unfold maxLen; omega) (by omega) (by simp; omega) ?_; intro v1 w1 hown1 hg1 hn1; have HB1 : Hid (Below wo.heap.size wo w1) := Lib.hid ((HB.out.alloc hsz _).grown hg1 (by simp; omega) (fun q hq => (HO.out.lt q hq).1)); obtain ⟨A1, c1, rfl⟩ := row_shape hown1; have HO1 : Hid (w1.ownsRow wo.heap.size 5 1 (.slice A1 (k + 1) c1) (k + 1) (u8s (pat (k + 1)))) := Lib.hid (by rw [HP1.out, u8s_snoc]; exact hown1); clear hown1 hg1 hn1)
        refine ⟨⟨k + 1, A1, c1, rfl, HO1, HB1, HNX.out.1, HNX.out.2⟩, ?_⟩
        show 65533 + N - (k + 1) < 65533 + N - k
        omega
    · have hk2 : k = 65533 + N := by omega
      have hby := own_zero HO.out
      have hL := Lines_any A k c (pat k) w0 hby.1 (by omega) (tabs_later HT.out HB.out) (HM.out.later HB.out)
      obtain ⟨q, hq⟩ : ∃ q, q = linesErr (toS (pat k)) := ⟨_, rfl⟩
      have hge : ¬ ((k : Int) < 65533 + (N : Int)) := by omega
      by_cases h4 : N = 4
      · subst h4
        obtain ⟨e1, e2⟩ := big_err (s := toS (pat k)) (by rw [toS_size, pat_len]; omega)
        rw [e1, e2] at hL
        have HL := Lib.hid hL
        obtain rfl : k = 65537 := by omega
        clear hL e1 e2 hq hby hge hlt hk hk5 hk2 HO
        go_wp2_with fail
        go_at_call 24
        refine HL.out.mono ?_
        rintro e w1 ⟨v1, rfl, ht1, hb1⟩
        obtain ⟨ao, cap, rfl, _⟩ := ht1
        obtain ⟨W1, hW1⟩ : ∃ W1, W1 = w1.alloc (Obj.cells #[Value.int IntKind.i64 2, Value.int IntKind.i64 0] 38) := ⟨_, rfl⟩
        have c1 : (w1.alloc (Obj.cells #[Value.int IntKind.i64 2, Value.int IntKind.i64 0] 38)).cell? ⟨w1.heap.size, 0, none⟩ = some (.int .i64 2) := by rw [World.cell?_alloc_new]; rfl
        have c2 : (w1.alloc (Obj.cells #[Value.int IntKind.i64 2, Value.int IntKind.i64 0] 38)).cell? ⟨w1.heap.size, 1, none⟩ = some (.int .i64 0) := by rw [World.cell?_alloc_new]; rfl
        have HBW : Hid (Below wo.heap.size wo W1) := Lib.hid (by rw [hW1]; exact (HB.out.trans (hb1.mono HB.out.size)).alloc (Nat.le_trans HB.out.size hb1.size) _)
        clear hb1 HB HL
        obtain ⟨n, hn⟩ : ∃ n, n = 998 + K := ⟨_, rfl⟩
        have hn' : 998 + (K : Int) = (n : Int) := by omega
        have hn9 : (990 : Int) < (n : Int) := by omega
        have hn1 : n ≤ 1002 := by omega
        obtain ⟨W2, hmk, ho2, hg2⟩ := make_u8 n (by omega) wo.heap.size W1 HBW.out.size
        obtain ⟨g, hg⟩ : ∃ g, g = W1.heap.size := ⟨_, rfl⟩
        have hgw : wo.heap.size ≤ g := by rw [hg]; exact HBW.out.size
        have hmk' := hmk
        rw [← hg] at ho2 hmk'
        rw [hW1, ← hn'] at hmk'
        have HO2 := Lib.hid ho2
        have HBX := Lib.hid (HBW.out.grown hg2 HBW.out.size (fun q hq => by cases hq))
        have HN := Lib.hid hn
        have HN' := Lib.hid hn'
        clear hmk ho2 hg2 hn hn' hg
        have e9 : ((998 : Int) + (K : Int)).toNat = n := by have := HN.out; omega
        go_wp2_with fail
        clear hmk' c1 hW1
        go_loopw [11, 69] (fun v p wr => ∃ (i : Nat) (bs : List Nat), p = .int .i64 i ∧ Hid (wr.ownsRow wo.heap.size 5 1 (.slice (some ⟨g, 0, none⟩) n n) n (u8s bs)) ∧ Hid (∀ x ∈ bs, x < 256) ∧ Hid (Below wo.heap.size wo wr) ∧ i ≤ n) (fun _ p _ => n - (match p with | .int _ a => a.toNat | _ => 0))
        case atStart => exact ⟨0, _, rfl, HO2, Lib.hid (fun x hx => by have := List.eq_of_mem_replicate hx; omega), HBX, Nat.zero_le _⟩
        case round =>
          obtain ⟨i, bs, rfl, HC, HX, HBB, hin⟩ := hrel
          by_cases hlt2 : i < n
          · have i1 : (0 : Int) ≤ (i : Int) := by omega
            have i2 : (i : Int) < (n : Int) := by omega
            have f1 : wr.frozen? ⟨g, i, none⟩ = false := HC.out.frozenAt i
            have k1 : wr.cell? ⟨g, i, none⟩ = some (.int .u8 ((bs.getD i 0 : Nat) : Int)) := u8_cell HC.out hlt2
            go_wp2_with fail
            refine ⟨⟨i + 1, bs.set i 120, by go_num, Lib.hid (by rw [← u8s_set]; exact (HC.out.stored i _).1), Lib.hid (set_lt HX.out i 120 (by omega)), Lib.hid (HBB.out.setCell hgw _), by omega⟩, ?_⟩
            show n - ((i : Int) + 1).toNat < n - (i : Int).toNat
            omega
          · have HLB : Hid (bs.length = n) := Lib.hid (by have := HC.out.1; simpa [u8s] using this)
            cases bad with
            | false =>
              have HCX : Hid (wr.ownsRow wo.heap.size 5 1 (.slice (some ⟨g, 0, none⟩) n n) n (u8s bs)) := HC
              have HXX := HX
              have HBY := HBB
              have HLX := HLB
              clear HC HX HBB HLB
              have e2n : 2 + n = (97 :: 10 :: bs).length := by rw [List.length_cons, List.length_cons, HLX.out]; omega
              have HALL : Hid (∀ x ∈ 97 :: 10 :: bs, x < 256) := Lib.hid (fun x hx => by
                rcases List.mem_cons.1 hx with rfl | hx
                · omega
                · rcases List.mem_cons.1 hx with rfl | hx
                  · omega
                  · exact HXX.out x hx)
              have HE2N := Lib.hid e2n
              clear e2n
              obtain ⟨v3, w3, hr3, hown3, hg3⟩ := run_append_grow_own (P := Tryd.prog) (wr.alloc (.cells #[Value.int .u8 97, .int .u8 10] 5 (2, 3))) wo.heap.size 29 29 5 i0 (.int .u8 0) 1 1 Tryd.underlying29 hi0 hz0 hz1 hz2 rfl (by decide) (wr).heap.size 2 2 [.int .u8 97, .int .u8 10] rfl (const_cells wr [.int .u8 97, .int .u8 10] 5 (2, 3)) ⟨g, 0, none⟩ n n (u8s bs) (by rw [Nat.mul_one]; simpa [u8s] using HLX.out) ((HCX.out.alloc _).cells (g := g) rfl) (by omega) (by unfold maxLen; omega) (by omega) (Nat.le_trans HBY.out.size (by simp))
              have HB3 : Hid (Below (wr).heap.size wr w3) := Lib.hid (((Below.refl _ wr).alloc (Nat.le_refl _) _).grown hg3 (by simp) (fun q hq => by cases hq))
              have HO3 : Hid (w3.ownsRow wo.heap.size 5 1 v3 (2 + n) (u8s (97 :: 10 :: bs))) := Lib.hid hown3
              obtain ⟨A3, c3, hv3, hby3, hcap3⟩ := own_bytes HO3.out HALL.out
              subst hv3
              have HY3 := Lib.hid (And.intro hby3 hcap3)
              have esz : (wr).heap.size = wr.heap.size := by first | rfl | simp
              rw [esz] at hr3
              have HR3 := Lib.hid hr3
              clear hown3 hg3 hby3 hcap3 hr3
              have kc := fun (w : World) (C : Array Value) (n c : Nat) => Lib.run_convert_bytes_const (P := Tryd.prog) w 29 5 C n c Tryd.underlying29 Tryd.underlying5
              have kcx := kc wr #[Value.int .u8 97, Value.int .u8 10] 2 2
              rw [esz] at kcx
              clear esz
              have HW3 := Lib.hid (HBY.out.trans (HB3.out.mono HBY.out.size))
              have hL2 := Lines_any A3 (2 + n) c3 (97 :: 10 :: bs) w3 HY3.out.1 (by omega) (tabs_later HT.out HW3.out) (HM.out.later HW3.out)
              obtain ⟨T, hT⟩ : ∃ T, T = toS (97 :: 10 :: bs) := ⟨_, rfl⟩
              obtain ⟨q2, hq2⟩ : ∃ q, q = linesErr T := ⟨_, rfl⟩
              obtain ⟨M, hM2⟩ : ∃ M, M = linesGot T := ⟨_, rfl⟩
              have hMl : M.length ≤ 9223372036854775807 := by
                have h8 : T.size = 2 + n := by rw [hT, toS_size, ← HE2N.out]
                have h9 := got_le T
                rw [hM2]; omega
              have HTT := Lib.hid hT
              have HQ2 := Lib.hid hq2
              have HM2 := Lib.hid hM2
              rw [← hT, ← hq2, ← hM2] at hL2
              obtain ⟨x2, y2⟩ := q2
              have HL2 := Lib.hid hL2
              clear hL2 hT hq2 hM2
              have HSM := Lib.hid (fun (W : World) (v1 v2 : Value) (x1 : TextsAt W v1 M) (x2 : TextsAt W v2 M) => SameTexts_any M v1 v2 W x1 x2 hMl)
              clear hMl
              go_wp2_with (at_builtin; refine Lib.wpList_append_run _ rfl (.tmp 81) (.tmp 82) _ _ rfl _ _ rfl rfl _ _ HR3.out ?_)
              go_at_call 24
              refine HL2.out.mono ?_
              rintro e w4 ⟨v4, rfl, ht4, hb4⟩
              obtain ⟨W4, hW4⟩ : ∃ W4, W4 = w4.alloc (Obj.cells #[Value.int IntKind.i64 (x2 : Int), Value.int IntKind.i64 (y2 : Int)] 38) := ⟨_, rfl⟩
              have hB4 : Below w4.heap.size w4 W4 := by rw [hW4]; exact (Below.refl _ _).alloc (Nat.le_refl _) _
              have HK4 : Hid (Blk W4 w4.heap.size 38 #[Value.int IntKind.i64 (x2 : Int), Value.int IntKind.i64 (y2 : Int)]) := Lib.hid (by rw [hW4]; exact Blk.new _ _ _)
              have HP4 := Lib.hid (ht4.later hB4)
              have HXW : Hid (Below (wr).heap.size wr W4) := Lib.hid (HB3.out.trans ((hb4.mono HB3.out.size).trans (hB4.mono (Nat.le_trans HB3.out.size hb4.size))))
              have HC4 := Lib.hid (own_later HCX.out HXW.out)
              have HBY4 := Lib.hid (HBY.out.trans (HXW.out.mono HBY.out.size))
              clear ht4 hb4 hB4
              obtain ⟨v5, w5, hr5, hown5, hg5⟩ := run_append_grow_own (P := Tryd.prog) (W4.alloc (.cells #[Value.int .u8 97, .int .u8 10] 5 (2, 3))) wo.heap.size 29 29 5 i0 (.int .u8 0) 1 1 Tryd.underlying29 hi0 hz0 hz1 hz2 rfl (by decide) W4.heap.size 2 2 [.int .u8 97, .int .u8 10] rfl (const_cells W4 [.int .u8 97, .int .u8 10] 5 (2, 3)) ⟨g, 0, none⟩ n n (u8s bs) (by rw [Nat.mul_one]; simpa [u8s] using HLX.out) ((HC4.out.alloc _).cells (g := g) rfl) (by omega) (by unfold maxLen; omega) (by omega) (Nat.le_trans HBY4.out.size (by simp))
              have HB5 : Hid (Below W4.heap.size W4 w5) := Lib.hid (((Below.refl _ W4).alloc (Nat.le_refl _) _).grown hg5 (by simp) (fun q hq => by cases hq))
              have HO5 : Hid (w5.ownsRow wo.heap.size 5 1 v5 (2 + n) (u8s (97 :: 10 :: bs))) := Lib.hid hown5
              obtain ⟨A5, c5, hv5, hby5, hcap5⟩ := own_bytes HO5.out HALL.out
              subst hv5
              have HY5 := Lib.hid (And.intro hby5 hcap5)
              have HR5 := Lib.hid hr5
              have kc4 := kc W4
              clear hown5 hg5 hby5 hcap5 hr5
              have hL3 := RefLines_any A5 (2 + n) c5 (97 :: 10 :: bs) w5 HY5.out.1 HY5.out.2 (by omega)
              rw [← HTT.out, ← HQ2.out, ← HM2.out] at hL3
              have HL3 := Lib.hid hL3
              clear hL3
              have HBY5 := Lib.hid (HBY4.out.trans (HB5.out.mono HBY4.out.size))
              have HP5 := Lib.hid (HP4.out.later HB5.out)
              have HK5 := Lib.hid (HK4.out.below HB5.out HK4.out.lt)
              have hsz4 : w4.heap.size + 1 = W4.heap.size := by rw [hW4]; simp
              rw [hW4, show (w4.alloc (Obj.cells #[Value.int IntKind.i64 (x2 : Int), Value.int IntKind.i64 (y2 : Int)] 38)).heap.size = w4.heap.size + 1 by simp] at HR5
              have kc4' := kc (w4.alloc (Obj.cells #[Value.int IntKind.i64 (x2 : Int), Value.int IntKind.i64 (y2 : Int)] 38)) #[Value.int .u8 97, Value.int .u8 10] 2 2
              rw [show (w4.alloc (Obj.cells #[Value.int IntKind.i64 (x2 : Int), Value.int IntKind.i64 (y2 : Int)] 38)).heap.size = w4.heap.size + 1 by simp] at kc4'
              clear hsz4 kc4
              go_wp2_with (at_builtin; refine Lib.wpList_append_run _ rfl (.tmp 89) (.tmp 90) _ _ rfl _ _ rfl rfl _ _ HR5.out ?_)
              go_at_call 25
              refine HL3.out.mono ?_
              rintro e w6 ⟨v6, rfl, ht6, hb6⟩
              obtain ⟨W6, hW6⟩ : ∃ W6, W6 = w6.alloc (Obj.cells #[Value.int IntKind.i64 (x2 : Int), Value.int IntKind.i64 (y2 : Int)] 38) := ⟨_, rfl⟩
              have hB6 : Below w6.heap.size w6 W6 := by rw [hW6]; exact (Below.refl _ _).alloc (Nat.le_refl _) _
              have HK6 : Hid (Blk W6 w6.heap.size 38 #[Value.int IntKind.i64 (x2 : Int), Value.int IntKind.i64 (y2 : Int)]) := Lib.hid (by rw [hW6]; exact Blk.new _ _ _)
              have HQ6 := Lib.hid (ht6.later hB6)
              have HP6 := Lib.hid ((HP5.out.later hb6).later hB6)
              have HJ6 := Lib.hid ((HK5.out.below hb6 HK5.out.lt).below hB6 (HK5.out.below hb6 HK5.out.lt).lt)
              have HBY6 := Lib.hid (HBY5.out.trans ((hb6.trans (hB6.mono hb6.size)).mono HBY5.out.size))
              clear ht6 hb6 hB6 kc4' hW4 kc
              go_wp2_with fail
              rw [← hW6]
              clear hW6
              go_at_call 19
              refine (HSM.out _ _ _ HP6.out HQ6.out).mono ?_
              rintro e w7 ⟨rfl, hb7⟩
              have HBY7 := Lib.hid (HBY6.out.trans (hb7.mono HBY6.out.size))
              have k1 := HJ6.out.below hb7 HJ6.out.lt
              have k2 := HK6.out.below hb7 HK6.out.lt
              have c1 : w7.cell? ⟨w4.heap.size, 0, none⟩ = some (.int .i64 (x2 : Int)) := k1.cell 0
              have c2 : w7.cell? ⟨w4.heap.size, 1, none⟩ = some (.int .i64 (y2 : Int)) := k1.cell 1
              have c3 : w7.cell? ⟨w6.heap.size, 0, none⟩ = some (.int .i64 (x2 : Int)) := k2.cell 0
              have c4 : w7.cell? ⟨w6.heap.size, 1, none⟩ = some (.int .i64 (y2 : Int)) := k2.cell 1
              clear k1 k2 hb7
              go_wp2_with fail
              go_at_call 14
              refine (awake4_any _ (tabs_later HT.out HBY7.out)).mono ?_
              rintro e w8 ⟨rfl, hb8⟩
              go_wp2_with fail
              go_ret
              exact ⟨rfl, HBY7.out.trans (hb8.mono HBY7.out.size)⟩
            | true =>
              have f1 : wr.frozen? ⟨g, 990, none⟩ = false := HC.out.frozenAt 990
              have k1 : wr.cell? ⟨g, 990, none⟩ = some (.int .u8 ((bs.getD 990 0 : Nat) : Int)) := u8_cell HC.out (by omega)
              have HCX : Hid ((wr.setCell ⟨g, 990, none⟩ (.int .u8 1)).ownsRow wo.heap.size 5 1 (.slice (some ⟨g, 0, none⟩) n n) n (u8s (bs.set 990 1))) := Lib.hid (by rw [← u8s_set]; exact (HC.out.stored 990 _).1)
              have HXX : Hid (∀ x ∈ bs.set 990 1, x < 256) := Lib.hid (set_lt HX.out 990 1 (by omega))
              have HBY : Hid (Below wo.heap.size wo (wr.setCell ⟨g, 990, none⟩ (.int .u8 1))) := Lib.hid (HBB.out.setCell hgw _)
              have HLX : Hid ((bs.set 990 1).length = n) := Lib.hid (by rw [List.length_set]; exact HLB.out)
              clear HC HX HBB HLB
              have e2n : 2 + n = (97 :: 10 :: (bs.set 990 1)).length := by rw [List.length_cons, List.length_cons, HLX.out]; omega
              have HALL : Hid (∀ x ∈ 97 :: 10 :: (bs.set 990 1), x < 256) := Lib.hid (fun x hx => by
                rcases List.mem_cons.1 hx with rfl | hx
                · omega
                · rcases List.mem_cons.1 hx with rfl | hx
                  · omega
                  · exact HXX.out x hx)
              have HE2N := Lib.hid e2n
              clear e2n
              obtain ⟨v3, w3, hr3, hown3, hg3⟩ := run_append_grow_own (P := Tryd.prog) ((wr.setCell ⟨g, 990, none⟩ (.int .u8 1)).alloc (.cells #[Value.int .u8 97, .int .u8 10] 5 (2, 3))) wo.heap.size 29 29 5 i0 (.int .u8 0) 1 1 Tryd.underlying29 hi0 hz0 hz1 hz2 rfl (by decide) ((wr.setCell ⟨g, 990, none⟩ (.int .u8 1))).heap.size 2 2 [.int .u8 97, .int .u8 10] rfl (const_cells (wr.setCell ⟨g, 990, none⟩ (.int .u8 1)) [.int .u8 97, .int .u8 10] 5 (2, 3)) ⟨g, 0, none⟩ n n (u8s (bs.set 990 1)) (by rw [Nat.mul_one]; simpa [u8s] using HLX.out) ((HCX.out.alloc _).cells (g := g) rfl) (by omega) (by unfold maxLen; omega) (by omega) (Nat.le_trans HBY.out.size (by simp))
              have HB3 : Hid (Below ((wr.setCell ⟨g, 990, none⟩ (.int .u8 1))).heap.size (wr.setCell ⟨g, 990, none⟩ (.int .u8 1)) w3) := Lib.hid (((Below.refl _ (wr.setCell ⟨g, 990, none⟩ (.int .u8 1))).alloc (Nat.le_refl _) _).grown hg3 (by simp) (fun q hq => by cases hq))
              have HO3 : Hid (w3.ownsRow wo.heap.size 5 1 v3 (2 + n) (u8s (97 :: 10 :: (bs.set 990 1)))) := Lib.hid hown3
              obtain ⟨A3, c3, hv3, hby3, hcap3⟩ := own_bytes HO3.out HALL.out
              subst hv3
              have HY3 := Lib.hid (And.intro hby3 hcap3)
              have esz : ((wr.setCell ⟨g, 990, none⟩ (.int .u8 1))).heap.size = wr.heap.size := by first | rfl | simp
              rw [esz] at hr3
              have HR3 := Lib.hid hr3
              clear hown3 hg3 hby3 hcap3 hr3
              have kc := fun (w : World) (C : Array Value) (n c : Nat) => Lib.run_convert_bytes_const (P := Tryd.prog) w 29 5 C n c Tryd.underlying29 Tryd.underlying5
              have kcx := kc (wr.setCell ⟨g, 990, none⟩ (.int .u8 1)) #[Value.int .u8 97, Value.int .u8 10] 2 2
              rw [esz] at kcx
              clear esz
              have HW3 := Lib.hid (HBY.out.trans (HB3.out.mono HBY.out.size))
              have hL2 := Lines_any A3 (2 + n) c3 (97 :: 10 :: (bs.set 990 1)) w3 HY3.out.1 (by omega) (tabs_later HT.out HW3.out) (HM.out.later HW3.out)
              obtain ⟨T, hT⟩ : ∃ T, T = toS (97 :: 10 :: (bs.set 990 1)) := ⟨_, rfl⟩
              obtain ⟨q2, hq2⟩ : ∃ q, q = linesErr T := ⟨_, rfl⟩
              obtain ⟨M, hM2⟩ : ∃ M, M = linesGot T := ⟨_, rfl⟩
              have hMl : M.length ≤ 9223372036854775807 := by
                have h8 : T.size = 2 + n := by rw [hT, toS_size, ← HE2N.out]
                have h9 := got_le T
                rw [hM2]; omega
              have HTT := Lib.hid hT
              have HQ2 := Lib.hid hq2
              have HM2 := Lib.hid hM2
              rw [← hT, ← hq2, ← hM2] at hL2
              obtain ⟨x2, y2⟩ := q2
              have HL2 := Lib.hid hL2
              clear hL2 hT hq2 hM2
              have HSM := Lib.hid (fun (W : World) (v1 v2 : Value) (x1 : TextsAt W v1 M) (x2 : TextsAt W v2 M) => SameTexts_any M v1 v2 W x1 x2 hMl)
              clear hMl
              go_wp2_with (at_builtin; refine Lib.wpList_append_run _ rfl (.tmp 81) (.tmp 82) _ _ rfl _ _ rfl rfl _ _ HR3.out ?_)
              go_at_call 24
              refine HL2.out.mono ?_
              rintro e w4 ⟨v4, rfl, ht4, hb4⟩
              obtain ⟨W4, hW4⟩ : ∃ W4, W4 = w4.alloc (Obj.cells #[Value.int IntKind.i64 (x2 : Int), Value.int IntKind.i64 (y2 : Int)] 38) := ⟨_, rfl⟩
              have hB4 : Below w4.heap.size w4 W4 := by rw [hW4]; exact (Below.refl _ _).alloc (Nat.le_refl _) _
              have HK4 : Hid (Blk W4 w4.heap.size 38 #[Value.int IntKind.i64 (x2 : Int), Value.int IntKind.i64 (y2 : Int)]) := Lib.hid (by rw [hW4]; exact Blk.new _ _ _)
              have HP4 := Lib.hid (ht4.later hB4)
              have HXW : Hid (Below ((wr.setCell ⟨g, 990, none⟩ (.int .u8 1))).heap.size (wr.setCell ⟨g, 990, none⟩ (.int .u8 1)) W4) := Lib.hid (HB3.out.trans ((hb4.mono HB3.out.size).trans (hB4.mono (Nat.le_trans HB3.out.size hb4.size))))
              have HC4 := Lib.hid (own_later HCX.out HXW.out)
              have HBY4 := Lib.hid (HBY.out.trans (HXW.out.mono HBY.out.size))
              clear ht4 hb4 hB4
              obtain ⟨v5, w5, hr5, hown5, hg5⟩ := run_append_grow_own (P := Tryd.prog) (W4.alloc (.cells #[Value.int .u8 97, .int .u8 10] 5 (2, 3))) wo.heap.size 29 29 5 i0 (.int .u8 0) 1 1 Tryd.underlying29 hi0 hz0 hz1 hz2 rfl (by decide) W4.heap.size 2 2 [.int .u8 97, .int .u8 10] rfl (const_cells W4 [.int .u8 97, .int .u8 10] 5 (2, 3)) ⟨g, 0, none⟩ n n (u8s (bs.set 990 1)) (by rw [Nat.mul_one]; simpa [u8s] using HLX.out) ((HC4.out.alloc _).cells (g := g) rfl) (by omega) (by unfold maxLen; omega) (by omega) (Nat.le_trans HBY4.out.size (by simp))
              have HB5 : Hid (Below W4.heap.size W4 w5) := Lib.hid (((Below.refl _ W4).alloc (Nat.le_refl _) _).grown hg5 (by simp) (fun q hq => by cases hq))
              have HO5 : Hid (w5.ownsRow wo.heap.size 5 1 v5 (2 + n) (u8s (97 :: 10 :: (bs.set 990 1)))) := Lib.hid hown5
              obtain ⟨A5, c5, hv5, hby5, hcap5⟩ := own_bytes HO5.out HALL.out
              subst hv5
              have HY5 := Lib.hid (And.intro hby5 hcap5)
              have HR5 := Lib.hid hr5
              have kc4 := kc W4
              clear hown5 hg5 hby5 hcap5 hr5
              have hL3 := RefLines_any A5 (2 + n) c5 (97 :: 10 :: (bs.set 990 1)) w5 HY5.out.1 HY5.out.2 (by omega)
              rw [← HTT.out, ← HQ2.out, ← HM2.out] at hL3
              have HL3 := Lib.hid hL3
              clear hL3
              have HBY5 := Lib.hid (HBY4.out.trans (HB5.out.mono HBY4.out.size))
              have HP5 := Lib.hid (HP4.out.later HB5.out)
              have HK5 := Lib.hid (HK4.out.below HB5.out HK4.out.lt)
              have hsz4 : w4.heap.size + 1 = W4.heap.size := by rw [hW4]; simp
              rw [hW4, show (w4.alloc (Obj.cells #[Value.int IntKind.i64 (x2 : Int), Value.int IntKind.i64 (y2 : Int)] 38)).heap.size = w4.heap.size + 1 by simp] at HR5
              have kc4' := kc (w4.alloc (Obj.cells #[Value.int IntKind.i64 (x2 : Int), Value.int IntKind.i64 (y2 : Int)] 38)) #[Value.int .u8 97, Value.int .u8 10] 2 2
              rw [show (w4.alloc (Obj.cells #[Value.int IntKind.i64 (x2 : Int), Value.int IntKind.i64 (y2 : Int)] 38)).heap.size = w4.heap.size + 1 by simp] at kc4'
              clear hsz4 kc4
              go_wp2_with (at_builtin; refine Lib.wpList_append_run _ rfl (.tmp 89) (.tmp 90) _ _ rfl _ _ rfl rfl _ _ HR5.out ?_)
              go_at_call 25
              refine HL3.out.mono ?_
              rintro e w6 ⟨v6, rfl, ht6, hb6⟩
              obtain ⟨W6, hW6⟩ : ∃ W6, W6 = w6.alloc (Obj.cells #[Value.int IntKind.i64 (x2 : Int), Value.int IntKind.i64 (y2 : Int)] 38) := ⟨_, rfl⟩
              have hB6 : Below w6.heap.size w6 W6 := by rw [hW6]; exact (Below.refl _ _).alloc (Nat.le_refl _) _
              have HK6 : Hid (Blk W6 w6.heap.size 38 #[Value.int IntKind.i64 (x2 : Int), Value.int IntKind.i64 (y2 : Int)]) := Lib.hid (by rw [hW6]; exact Blk.new _ _ _)
              have HQ6 := Lib.hid (ht6.later hB6)
              have HP6 := Lib.hid ((HP5.out.later hb6).later hB6)
              have HJ6 := Lib.hid ((HK5.out.below hb6 HK5.out.lt).below hB6 (HK5.out.below hb6 HK5.out.lt).lt)
              have HBY6 := Lib.hid (HBY5.out.trans ((hb6.trans (hB6.mono hb6.size)).mono HBY5.out.size))
              clear ht6 hb6 hB6 kc4' hW4 kc
              go_wp2_with fail
              rw [← hW6]
              clear hW6
              go_at_call 19
              refine (HSM.out _ _ _ HP6.out HQ6.out).mono ?_
              rintro e w7 ⟨rfl, hb7⟩
              have HBY7 := Lib.hid (HBY6.out.trans (hb7.mono HBY6.out.size))
              have k1 := HJ6.out.below hb7 HJ6.out.lt
              have k2 := HK6.out.below hb7 HK6.out.lt
              have c1 : w7.cell? ⟨w4.heap.size, 0, none⟩ = some (.int .i64 (x2 : Int)) := k1.cell 0
              have c2 : w7.cell? ⟨w4.heap.size, 1, none⟩ = some (.int .i64 (y2 : Int)) := k1.cell 1
              have c3 : w7.cell? ⟨w6.heap.size, 0, none⟩ = some (.int .i64 (x2 : Int)) := k2.cell 0
              have c4 : w7.cell? ⟨w6.heap.size, 1, none⟩ = some (.int .i64 (y2 : Int)) := k2.cell 1
              clear k1 k2 hb7
              go_wp2_with fail
              go_at_call 14
              refine (awake4_any _ (tabs_later HT.out HBY7.out)).mono ?_
              rintro e w8 ⟨rfl, hb8⟩
              go_wp2_with fail
              go_ret
              exact ⟨rfl, HBY7.out.trans (hb8.mono HBY7.out.size)⟩
      · have HL := Lib.hid hL
        have hx2 : q.1 ≠ 2 := by rw [hq]; exact pat_err k (by omega)
        obtain ⟨x, y⟩ := q
        have hN3 : ¬ ((3 : Int) < (N : Int)) := by omega
        have qx : ((x : Int) == 2) = false := beq_eq_false_iff_ne.2 (by simp only at hx2; omega)
        simp only [← hq] at HL
        clear hL hq hx2 hby hlt hk hk5 hk2 HO h4
        go_wp2_with fail
        go_at_call 24
        refine HL.out.mono ?_
        rintro e w1 ⟨v1, rfl, ht1, hb1⟩
        obtain ⟨ao, cap, rfl, _⟩ := ht1
        obtain ⟨W1, hW1⟩ : ∃ W1, W1 = w1.alloc (Obj.cells #[Value.int IntKind.i64 (x : Int), Value.int IntKind.i64 (y : Int)] 38) := ⟨_, rfl⟩
        have c1 : (w1.alloc (Obj.cells #[Value.int IntKind.i64 (x : Int), Value.int IntKind.i64 (y : Int)] 38)).cell? ⟨w1.heap.size, 0, none⟩ = some (.int .i64 (x : Int)) := by rw [World.cell?_alloc_new]; rfl
        have HBW : Hid (Below wo.heap.size wo W1) := Lib.hid (by rw [hW1]; exact (HB.out.trans (hb1.mono HB.out.size)).alloc (Nat.le_trans HB.out.size hb1.size) _)
        clear hb1 HB HL
        obtain ⟨n, hn⟩ : ∃ n, n = 998 + K := ⟨_, rfl⟩
        have hn' : 998 + (K : Int) = (n : Int) := by omega
        have hn9 : (990 : Int) < (n : Int) := by omega
        have hn1 : n ≤ 1002 := by omega
        obtain ⟨W2, hmk, ho2, hg2⟩ := make_u8 n (by omega) wo.heap.size W1 HBW.out.size
        obtain ⟨g, hg⟩ : ∃ g, g = W1.heap.size := ⟨_, rfl⟩
        have hgw : wo.heap.size ≤ g := by rw [hg]; exact HBW.out.size
        have hmk' := hmk
        rw [← hg] at ho2 hmk'
        rw [hW1, ← hn'] at hmk'
        have HO2 := Lib.hid ho2
        have HBX := Lib.hid (HBW.out.grown hg2 HBW.out.size (fun q hq => by cases hq))
        have HN := Lib.hid hn
        have HN' := Lib.hid hn'
        clear hmk ho2 hg2 hn hn' hg
        have e9 : ((998 : Int) + (K : Int)).toNat = n := by have := HN.out; omega
        go_wp2_with fail
        clear hmk' c1 hW1
        go_loopw [11, 69] (fun v p wr => ∃ (i : Nat) (bs : List Nat), p = .int .i64 i ∧ Hid (wr.ownsRow wo.heap.size 5 1 (.slice (some ⟨g, 0, none⟩) n n) n (u8s bs)) ∧ Hid (∀ x ∈ bs, x < 256) ∧ Hid (Below wo.heap.size wo wr) ∧ i ≤ n) (fun _ p _ => n - (match p with | .int _ a => a.toNat | _ => 0))
        case atStart => exact ⟨0, _, rfl, HO2, Lib.hid (fun x hx => by have := List.eq_of_mem_replicate hx; omega), HBX, Nat.zero_le _⟩
        case round =>
          obtain ⟨i, bs, rfl, HC, HX, HBB, hin⟩ := hrel
          by_cases hlt2 : i < n
          · have i1 : (0 : Int) ≤ (i : Int) := by omega
            have i2 : (i : Int) < (n : Int) := by omega
            have f1 : wr.frozen? ⟨g, i, none⟩ = false := HC.out.frozenAt i
            have k1 : wr.cell? ⟨g, i, none⟩ = some (.int .u8 ((bs.getD i 0 : Nat) : Int)) := u8_cell HC.out hlt2
            go_wp2_with fail
            refine ⟨⟨i + 1, bs.set i 120, by go_num, Lib.hid (by rw [← u8s_set]; exact (HC.out.stored i _).1), Lib.hid (set_lt HX.out i 120 (by omega)), Lib.hid (HBB.out.setCell hgw _), by omega⟩, ?_⟩
            show n - ((i : Int) + 1).toNat < n - (i : Int).toNat
            omega
          · have HLB : Hid (bs.length = n) := Lib.hid (by have := HC.out.1; simpa [u8s] using this)
            cases bad with
            | false =>
              have HCX : Hid (wr.ownsRow wo.heap.size 5 1 (.slice (some ⟨g, 0, none⟩) n n) n (u8s bs)) := HC
              have HXX := HX
              have HBY := HBB
              have HLX := HLB
              clear HC HX HBB HLB
              have e2n : 2 + n = (97 :: 10 :: bs).length := by rw [List.length_cons, List.length_cons, HLX.out]; omega
              have HALL : Hid (∀ x ∈ 97 :: 10 :: bs, x < 256) := Lib.hid (fun x hx => by
                rcases List.mem_cons.1 hx with rfl | hx
                · omega
                · rcases List.mem_cons.1 hx with rfl | hx
                  · omega
                  · exact HXX.out x hx)
              have HE2N := Lib.hid e2n
              clear e2n
              obtain ⟨v3, w3, hr3, hown3, hg3⟩ := run_append_grow_own (P := Tryd.prog) (wr.alloc (.cells #[Value.int .u8 97, .int .u8 10] 5 (2, 3))) wo.heap.size 29 29 5 i0 (.int .u8 0) 1 1 Tryd.underlying29 hi0 hz0 hz1 hz2 rfl (by decide) (wr).heap.size 2 2 [.int .u8 97, .int .u8 10] rfl (const_cells wr [.int .u8 97, .int .u8 10] 5 (2, 3)) ⟨g, 0, none⟩ n n (u8s bs) (by rw [Nat.mul_one]; simpa [u8s] using HLX.out) ((HCX.out.alloc _).cells (g := g) rfl) (by omega) (by unfold maxLen; omega) (by omega) (Nat.le_trans HBY.out.size (by simp))
              have HB3 : Hid (Below (wr).heap.size wr w3) := Lib.hid (((Below.refl _ wr).alloc (Nat.le_refl _) _).grown hg3 (by simp) (fun q hq => by cases hq))
              have HO3 : Hid (w3.ownsRow wo.heap.size 5 1 v3 (2 + n) (u8s (97 :: 10 :: bs))) := Lib.hid hown3
              obtain ⟨A3, c3, hv3, hby3, hcap3⟩ := own_bytes HO3.out HALL.out
              subst hv3
              have HY3 := Lib.hid (And.intro hby3 hcap3)
              have esz : (wr).heap.size = wr.heap.size := by first | rfl | simp
              rw [esz] at hr3
              have HR3 := Lib.hid hr3
              clear hown3 hg3 hby3 hcap3 hr3
              have kc := fun (w : World) (C : Array Value) (n c : Nat) => Lib.run_convert_bytes_const (P := Tryd.prog) w 29 5 C n c Tryd.underlying29 Tryd.underlying5
              have kcx := kc wr #[Value.int .u8 97, Value.int .u8 10] 2 2
              rw [esz] at kcx
              clear esz
              have HW3 := Lib.hid (HBY.out.trans (HB3.out.mono HBY.out.size))
              have hL2 := Lines_any A3 (2 + n) c3 (97 :: 10 :: bs) w3 HY3.out.1 (by omega) (tabs_later HT.out HW3.out) (HM.out.later HW3.out)
              obtain ⟨T, hT⟩ : ∃ T, T = toS (97 :: 10 :: bs) := ⟨_, rfl⟩
              obtain ⟨q2, hq2⟩ : ∃ q, q = linesErr T := ⟨_, rfl⟩
              obtain ⟨M, hM2⟩ : ∃ M, M = linesGot T := ⟨_, rfl⟩
              have hMl : M.length ≤ 9223372036854775807 := by
                have h8 : T.size = 2 + n := by rw [hT, toS_size, ← HE2N.out]
                have h9 := got_le T
                rw [hM2]; omega
              have HTT := Lib.hid hT
              have HQ2 := Lib.hid hq2
              have HM2 := Lib.hid hM2
              rw [← hT, ← hq2, ← hM2] at hL2
              obtain ⟨x2, y2⟩ := q2
              have HL2 := Lib.hid hL2
              clear hL2 hT hq2 hM2
              have HSM := Lib.hid (fun (W : World) (v1 v2 : Value) (x1 : TextsAt W v1 M) (x2 : TextsAt W v2 M) => SameTexts_any M v1 v2 W x1 x2 hMl)
              clear hMl
              go_wp2_with (at_builtin; refine Lib.wpList_append_run _ rfl (.tmp 81) (.tmp 82) _ _ rfl _ _ rfl rfl _ _ HR3.out ?_)
              go_at_call 24
              refine HL2.out.mono ?_
              rintro e w4 ⟨v4, rfl, ht4, hb4⟩
              obtain ⟨W4, hW4⟩ : ∃ W4, W4 = w4.alloc (Obj.cells #[Value.int IntKind.i64 (x2 : Int), Value.int IntKind.i64 (y2 : Int)] 38) := ⟨_, rfl⟩
              have hB4 : Below w4.heap.size w4 W4 := by rw [hW4]; exact (Below.refl _ _).alloc (Nat.le_refl _) _
              have HK4 : Hid (Blk W4 w4.heap.size 38 #[Value.int IntKind.i64 (x2 : Int), Value.int IntKind.i64 (y2 : Int)]) := Lib.hid (by rw [hW4]; exact Blk.new _ _ _)
              have HP4 := Lib.hid (ht4.later hB4)
              have HXW : Hid (Below (wr).heap.size wr W4) := Lib.hid (HB3.out.trans ((hb4.mono HB3.out.size).trans (hB4.mono (Nat.le_trans HB3.out.size hb4.size))))
              have HC4 := Lib.hid (own_later HCX.out HXW.out)
              have HBY4 := Lib.hid (HBY.out.trans (HXW.out.mono HBY.out.size))
              clear ht4 hb4 hB4
              obtain ⟨v5, w5, hr5, hown5, hg5⟩ := run_append_grow_own (P := Tryd.prog) (W4.alloc (.cells #[Value.int .u8 97, .int .u8 10] 5 (2, 3))) wo.heap.size 29 29 5 i0 (.int .u8 0) 1 1 Tryd.underlying29 hi0 hz0 hz1 hz2 rfl (by decide) W4.heap.size 2 2 [.int .u8 97, .int .u8 10] rfl (const_cells W4 [.int .u8 97, .int .u8 10] 5 (2, 3)) ⟨g, 0, none⟩ n n (u8s bs) (by rw [Nat.mul_one]; simpa [u8s] using HLX.out) ((HC4.out.alloc _).cells (g := g) rfl) (by omega) (by unfold maxLen; omega) (by omega) (Nat.le_trans HBY4.out.size (by simp))
              have HB5 : Hid (Below W4.heap.size W4 w5) := Lib.hid (((Below.refl _ W4).alloc (Nat.le_refl _) _).grown hg5 (by simp) (fun q hq => by cases hq))
              have HO5 : Hid (w5.ownsRow wo.heap.size 5 1 v5 (2 + n) (u8s (97 :: 10 :: bs))) := Lib.hid hown5
              obtain ⟨A5, c5, hv5, hby5, hcap5⟩ := own_bytes HO5.out HALL.out
              subst hv5
              have HY5 := Lib.hid (And.intro hby5 hcap5)
              have HR5 := Lib.hid hr5
              have kc4 := kc W4
              clear hown5 hg5 hby5 hcap5 hr5
              have hL3 := RefLines_any A5 (2 + n) c5 (97 :: 10 :: bs) w5 HY5.out.1 HY5.out.2 (by omega)
              rw [← HTT.out, ← HQ2.out, ← HM2.out] at hL3
              have HL3 := Lib.hid hL3
              clear hL3
              have HBY5 := Lib.hid (HBY4.out.trans (HB5.out.mono HBY4.out.size))
              have HP5 := Lib.hid (HP4.out.later HB5.out)
              have HK5 := Lib.hid (HK4.out.below HB5.out HK4.out.lt)
              have hsz4 : w4.heap.size + 1 = W4.heap.size := by rw [hW4]; simp
              rw [hW4, show (w4.alloc (Obj.cells #[Value.int IntKind.i64 (x2 : Int), Value.int IntKind.i64 (y2 : Int)] 38)).heap.size = w4.heap.size + 1 by simp] at HR5
              have kc4' := kc (w4.alloc (Obj.cells #[Value.int IntKind.i64 (x2 : Int), Value.int IntKind.i64 (y2 : Int)] 38)) #[Value.int .u8 97, Value.int .u8 10] 2 2
              rw [show (w4.alloc (Obj.cells #[Value.int IntKind.i64 (x2 : Int), Value.int IntKind.i64 (y2 : Int)] 38)).heap.size = w4.heap.size + 1 by simp] at kc4'
              clear hsz4 kc4
              go_wp2_with (at_builtin; refine Lib.wpList_append_run _ rfl (.tmp 89) (.tmp 90) _ _ rfl _ _ rfl rfl _ _ HR5.out ?_)
              go_at_call 25
              refine HL3.out.mono ?_
              rintro e w6 ⟨v6, rfl, ht6, hb6⟩
              obtain ⟨W6, hW6⟩ : ∃ W6, W6 = w6.alloc (Obj.cells #[Value.int IntKind.i64 (x2 : Int), Value.int IntKind.i64 (y2 : Int)] 38) := ⟨_, rfl⟩
              have hB6 : Below w6.heap.size w6 W6 := by rw [hW6]; exact (Below.refl _ _).alloc (Nat.le_refl _) _
              have HK6 : Hid (Blk W6 w6.heap.size 38 #[Value.int IntKind.i64 (x2 : Int), Value.int IntKind.i64 (y2 : Int)]) := Lib.hid (by rw [hW6]; exact Blk.new _ _ _)
              have HQ6 := Lib.hid (ht6.later hB6)
              have HP6 := Lib.hid ((HP5.out.later hb6).later hB6)
              have HJ6 := Lib.hid ((HK5.out.below hb6 HK5.out.lt).below hB6 (HK5.out.below hb6 HK5.out.lt).lt)
              have HBY6 := Lib.hid (HBY5.out.trans ((hb6.trans (hB6.mono hb6.size)).mono HBY5.out.size))
              clear ht6 hb6 hB6 kc4' hW4 kc
              go_wp2_with fail
              rw [← hW6]
              clear hW6
              go_at_call 19
              refine (HSM.out _ _ _ HP6.out HQ6.out).mono ?_
              rintro e w7 ⟨rfl, hb7⟩
              have HBY7 := Lib.hid (HBY6.out.trans (hb7.mono HBY6.out.size))
              have k1 := HJ6.out.below hb7 HJ6.out.lt
              have k2 := HK6.out.below hb7 HK6.out.lt
              have c1 : w7.cell? ⟨w4.heap.size, 0, none⟩ = some (.int .i64 (x2 : Int)) := k1.cell 0
              have c2 : w7.cell? ⟨w4.heap.size, 1, none⟩ = some (.int .i64 (y2 : Int)) := k1.cell 1
              have c3 : w7.cell? ⟨w6.heap.size, 0, none⟩ = some (.int .i64 (x2 : Int)) := k2.cell 0
              have c4 : w7.cell? ⟨w6.heap.size, 1, none⟩ = some (.int .i64 (y2 : Int)) := k2.cell 1
              clear k1 k2 hb7
              go_wp2_with fail
              go_at_call 14
              refine (awake4_any _ (tabs_later HT.out HBY7.out)).mono ?_
              rintro e w8 ⟨rfl, hb8⟩
              go_wp2_with fail
              go_ret
              exact ⟨rfl, HBY7.out.trans (hb8.mono HBY7.out.size)⟩
            | true =>
              have f1 : wr.frozen? ⟨g, 990, none⟩ = false := HC.out.frozenAt 990
              have k1 : wr.cell? ⟨g, 990, none⟩ = some (.int .u8 ((bs.getD 990 0 : Nat) : Int)) := u8_cell HC.out (by omega)
              have HCX : Hid ((wr.setCell ⟨g, 990, none⟩ (.int .u8 1)).ownsRow wo.heap.size 5 1 (.slice (some ⟨g, 0, none⟩) n n) n (u8s (bs.set 990 1))) := Lib.hid (by rw [← u8s_set]; exact (HC.out.stored 990 _).1)
              have HXX : Hid (∀ x ∈ bs.set 990 1, x < 256) := Lib.hid (set_lt HX.out 990 1 (by omega))
              have HBY : Hid (Below wo.heap.size wo (wr.setCell ⟨g, 990, none⟩ (.int .u8 1))) := Lib.hid (HBB.out.setCell hgw _)
              have HLX : Hid ((bs.set 990 1).length = n) := Lib.hid (by rw [List.length_set]; exact HLB.out)
              clear HC HX HBB HLB
              have e2n : 2 + n = (97 :: 10 :: (bs.set 990 1)).length := by rw [List.length_cons, List.length_cons, HLX.out]; omega
              have HALL : Hid (∀ x ∈ 97 :: 10 :: (bs.set 990 1), x < 256) := Lib.hid (fun x hx => by
                rcases List.mem_cons.1 hx with rfl | hx
                · omega
                · rcases List.mem_cons.1 hx with rfl | hx
                  · omega
                  · exact HXX.out x hx)
              have HE2N := Lib.hid e2n
              clear e2n
              obtain ⟨v3, w3, hr3, hown3, hg3⟩ := run_append_grow_own (P := Tryd.prog) ((wr.setCell ⟨g, 990, none⟩ (.int .u8 1)).alloc (.cells #[Value.int .u8 97, .int .u8 10] 5 (2, 3))) wo.heap.size 29 29 5 i0 (.int .u8 0) 1 1 Tryd.underlying29 hi0 hz0 hz1 hz2 rfl (by decide) ((wr.setCell ⟨g, 990, none⟩ (.int .u8 1))).heap.size 2 2 [.int .u8 97, .int .u8 10] rfl (const_cells (wr.setCell ⟨g, 990, none⟩ (.int .u8 1)) [.int .u8 97, .int .u8 10] 5 (2, 3)) ⟨g, 0, none⟩ n n (u8s (bs.set 990 1)) (by rw [Nat.mul_one]; simpa [u8s] using HLX.out) ((HCX.out.alloc _).cells (g := g) rfl) (by omega) (by unfold maxLen; omega) (by omega) (Nat.le_trans HBY.out.size (by simp))
              have HB3 : Hid (Below ((wr.setCell ⟨g, 990, none⟩ (.int .u8 1))).heap.size (wr.setCell ⟨g, 990, none⟩ (.int .u8 1)) w3) := Lib.hid (((Below.refl _ (wr.setCell ⟨g, 990, none⟩ (.int .u8 1))).alloc (Nat.le_refl _) _).grown hg3 (by simp) (fun q hq => by cases hq))
              have HO3 : Hid (w3.ownsRow wo.heap.size 5 1 v3 (2 + n) (u8s (97 :: 10 :: (bs.set 990 1)))) := Lib.hid hown3
              obtain ⟨A3, c3, hv3, hby3, hcap3⟩ := own_bytes HO3.out HALL.out
              subst hv3
              have HY3 := Lib.hid (And.intro hby3 hcap3)
              have esz : ((wr.setCell ⟨g, 990, none⟩ (.int .u8 1))).heap.size = wr.heap.size := by first | rfl | simp
              rw [esz] at hr3
              have HR3 := Lib.hid hr3
              clear hown3 hg3 hby3 hcap3 hr3
              have kc := fun (w : World) (C : Array Value) (n c : Nat) => Lib.run_convert_bytes_const (P := Tryd.prog) w 29 5 C n c Tryd.underlying29 Tryd.underlying5
              have kcx := kc (wr.setCell ⟨g, 990, none⟩ (.int .u8 1)) #[Value.int .u8 97, Value.int .u8 10] 2 2
              rw [esz] at kcx
              clear esz
              have HW3 := Lib.hid (HBY.out.trans (HB3.out.mono HBY.out.size))
              have hL2 := Lines_any A3 (2 + n) c3 (97 :: 10 :: (bs.set 990 1)) w3 HY3.out.1 (by omega) (tabs_later HT.out HW3.out) (HM.out.later HW3.out)
              obtain ⟨T, hT⟩ : ∃ T, T = toS (97 :: 10 :: (bs.set 990 1)) := ⟨_, rfl⟩
              obtain ⟨q2, hq2⟩ : ∃ q, q = linesErr T := ⟨_, rfl⟩
              obtain ⟨M, hM2⟩ : ∃ M, M = linesGot T := ⟨_, rfl⟩
              have hMl : M.length ≤ 9223372036854775807 := by
                have h8 : T.size = 2 + n := by rw [hT, toS_size, ← HE2N.out]
                have h9 := got_le T
                rw [hM2]; omega
              have HTT := Lib.hid hT
              have HQ2 := Lib.hid hq2
              have HM2 := Lib.hid hM2
              rw [← hT, ← hq2, ← hM2] at hL2
              obtain ⟨x2, y2⟩ := q2
              have HL2 := Lib.hid hL2
              clear hL2 hT hq2 hM2
              have HSM := Lib.hid (fun (W : World) (v1 v2 : Value) (x1 : TextsAt W v1 M) (x2 : TextsAt W v2 M) => SameTexts_any M v1 v2 W x1 x2 hMl)
              clear hMl
              go_wp2_with (at_builtin; refine Lib.wpList_append_run _ rfl (.tmp 81) (.tmp 82) _ _ rfl _ _ rfl rfl _ _ HR3.out ?_)
              go_at_call 24
              refine HL2.out.mono ?_
              rintro e w4 ⟨v4, rfl, ht4, hb4⟩
              obtain ⟨W4, hW4⟩ : ∃ W4, W4 = w4.alloc (Obj.cells #[Value.int IntKind.i64 (x2 : Int), Value.int IntKind.i64 (y2 : Int)] 38) := ⟨_, rfl⟩
              have hB4 : Below w4.heap.size w4 W4 := by rw [hW4]; exact (Below.refl _ _).alloc (Nat.le_refl _) _
              have HK4 : Hid (Blk W4 w4.heap.size 38 #[Value.int IntKind.i64 (x2 : Int), Value.int IntKind.i64 (y2 : Int)]) := Lib.hid (by rw [hW4]; exact Blk.new _ _ _)
              have HP4 := Lib.hid (ht4.later hB4)
              have HXW : Hid (Below ((wr.setCell ⟨g, 990, none⟩ (.int .u8 1))).heap.size (wr.setCell ⟨g, 990, none⟩ (.int .u8 1)) W4) := Lib.hid (HB3.out.trans ((hb4.mono HB3.out.size).trans (hB4.mono (Nat.le_trans HB3.out.size hb4.size))))
              have HC4 := Lib.hid (own_later HCX.out HXW.out)
              have HBY4 := Lib.hid (HBY.out.trans (HXW.out.mono HBY.out.size))
              clear ht4 hb4 hB4
              obtain ⟨v5, w5, hr5, hown5, hg5⟩ := run_append_grow_own (P := Tryd.prog) (W4.alloc (.cells #[Value.int .u8 97, .int .u8 10] 5 (2, 3))) wo.heap.size 29 29 5 i0 (.int .u8 0) 1 1 Tryd.underlying29 hi0 hz0 hz1 hz2 rfl (by decide) W4.heap.size 2 2 [.int .u8 97, .int .u8 10] rfl (const_cells W4 [.int .u8 97, .int .u8 10] 5 (2, 3)) ⟨g, 0, none⟩ n n (u8s (bs.set 990 1)) (by rw [Nat.mul_one]; simpa [u8s] using HLX.out) ((HC4.out.alloc _).cells (g := g) rfl) (by omega) (by unfold maxLen; omega) (by omega) (Nat.le_trans HBY4.out.size (by simp))
              have HB5 : Hid (Below W4.heap.size W4 w5) := Lib.hid (((Below.refl _ W4).alloc (Nat.le_refl _) _).grown hg5 (by simp) (fun q hq => by cases hq))
              have HO5 : Hid (w5.ownsRow wo.heap.size 5 1 v5 (2 + n) (u8s (97 :: 10 :: (bs.set 990 1)))) := Lib.hid hown5
              obtain ⟨A5, c5, hv5, hby5, hcap5⟩ := own_bytes HO5.out HALL.out
              subst hv5
              have HY5 := Lib.hid (And.intro hby5 hcap5)
              have HR5 := Lib.hid hr5
              have kc4 := kc W4
              clear hown5 hg5 hby5 hcap5 hr5
              have hL3 := RefLines_any A5 (2 + n) c5 (97 :: 10 :: (bs.set 990 1)) w5 HY5.out.1 HY5.out.2 (by omega)
              rw [← HTT.out, ← HQ2.out, ← HM2.out] at hL3
              have HL3 := Lib.hid hL3
              clear hL3
              have HBY5 := Lib.hid (HBY4.out.trans (HB5.out.mono HBY4.out.size))
              have HP5 := Lib.hid (HP4.out.later HB5.out)
              have HK5 := Lib.hid (HK4.out.below HB5.out HK4.out.lt)
              have hsz4 : w4.heap.size + 1 = W4.heap.size := by rw [hW4]; simp
              rw [hW4, show (w4.alloc (Obj.cells #[Value.int IntKind.i64 (x2 : Int), Value.int IntKind.i64 (y2 : Int)] 38)).heap.size = w4.heap.size + 1 by simp] at HR5
              have kc4' := kc (w4.alloc (Obj.cells #[Value.int IntKind.i64 (x2 : Int), Value.int IntKind.i64 (y2 : Int)] 38)) #[Value.int .u8 97, Value.int .u8 10] 2 2
              rw [show (w4.alloc (Obj.cells #[Value.int IntKind.i64 (x2 : Int), Value.int IntKind.i64 (y2 : Int)] 38)).heap.size = w4.heap.size + 1 by simp] at kc4'
              clear hsz4 kc4
              go_wp2_with (at_builtin; refine Lib.wpList_append_run _ rfl (.tmp 89) (.tmp 90) _ _ rfl _ _ rfl rfl _ _ HR5.out ?_)
              go_at_call 25
              refine HL3.out.mono ?_
              rintro e w6 ⟨v6, rfl, ht6, hb6⟩
              obtain ⟨W6, hW6⟩ : ∃ W6, W6 = w6.alloc (Obj.cells #[Value.int IntKind.i64 (x2 : Int), Value.int IntKind.i64 (y2 : Int)] 38) := ⟨_, rfl⟩
              have hB6 : Below w6.heap.size w6 W6 := by rw [hW6]; exact (Below.refl _ _).alloc (Nat.le_refl _) _
              have HK6 : Hid (Blk W6 w6.heap.size 38 #[Value.int IntKind.i64 (x2 : Int), Value.int IntKind.i64 (y2 : Int)]) := Lib.hid (by rw [hW6]; exact Blk.new _ _ _)
              have HQ6 := Lib.hid (ht6.later hB6)
              have HP6 := Lib.hid ((HP5.out.later hb6).later hB6)
              have HJ6 := Lib.hid ((HK5.out.below hb6 HK5.out.lt).below hB6 (HK5.out.below hb6 HK5.out.lt).lt)
              have HBY6 := Lib.hid (HBY5.out.trans ((hb6.trans (hB6.mono hb6.size)).mono HBY5.out.size))
              clear ht6 hb6 hB6 kc4' hW4 kc
              go_wp2_with fail
              rw [← hW6]
              clear hW6
              go_at_call 19
              refine (HSM.out _ _ _ HP6.out HQ6.out).mono ?_
              rintro e w7 ⟨rfl, hb7⟩
              have HBY7 := Lib.hid (HBY6.out.trans (hb7.mono HBY6.out.size))
              have k1 := HJ6.out.below hb7 HJ6.out.lt
              have k2 := HK6.out.below hb7 HK6.out.lt
              have c1 : w7.cell? ⟨w4.heap.size, 0, none⟩ = some (.int .i64 (x2 : Int)) := k1.cell 0
              have c2 : w7.cell? ⟨w4.heap.size, 1, none⟩ = some (.int .i64 (y2 : Int)) := k1.cell 1
              have c3 : w7.cell? ⟨w6.heap.size, 0, none⟩ = some (.int .i64 (x2 : Int)) := k2.cell 0
              have c4 : w7.cell? ⟨w6.heap.size, 1, none⟩ = some (.int .i64 (y2 : Int)) := k2.cell 1
              clear k1 k2 hb7
              go_wp2_with fail
              go_at_call 14
              refine (awake4_any _ (tabs_later HT.out HBY7.out)).mono ?_
              rintro e w8 ⟨rfl, hb8⟩
              go_wp2_with fail
              go_ret
              exact ⟨rfl, HBY7.out.trans (hb8.mono HBY7.out.size)⟩
section
open Go.ChangeShapes Go.WideShapes Go.ChangeAt Go.ChangeMaps
theorem textLong_walk {H : Type} {enc : TypeId × Value → H} (W : World) {base : Nat} (v0 v1 v2 : Value) {d0 d1 d2 : DataW H} {p0 p1 p2 : List MemPlace} (h0 : DataW.Trod enc Tryd.prog W 0 (fun _ => true) true 3 v0 d0 p0) (o0 : Value.okWide Tryd.prog W .any base 3 v0)
    (h1 : DataW.Trod enc Tryd.prog W 0 (fun _ => true) true 3 v1 d1 p1) (o1 : Value.okWide Tryd.prog W .any base 3 v1) (h2 : DataW.Trod enc Tryd.prog W 0 (fun _ => true) true 4 v2 d2 p2) (o2 : Value.okWide Tryd.prog W .any base 4 v2)
    (hT : Lib.Utf8Tabs 0 1 W) (hS : W.ShapedOpen Tryd.prog) :
    Calls Tryd.prog 10 #[v0, v1, v2] W fun e w' => e = .returned (.bool true) ∧ Below W.heap.size W w' := by
  obtain ⟨n, rfl, rfl, rfl, wn⟩ := open_int Tryd.underlying3 o0 h0
  obtain ⟨m, rfl, rfl, rfl, wm⟩ := open_int Tryd.underlying3 o1 h1
  obtain ⟨b, rfl, rfl, rfl⟩ := open_bool Tryd.underlying4 o2 h2
  exact textLong_any n m b W hT (MaxLenAt.of hS)
end
end Go.Proofs.YtdchnllflodmkaaDoor
