/- StanzaRemarks: the walk. -/
import Derived.Test.YtjkaigfpjebfbaaDoorStanzaParsedWalk
import Derived.Test.YtjkaigfpjebfbaaDoorRefLines
import Derived.Test.YtjkaigfpjebfbaaDoorInts
namespace Go.Proofs.YtjkaigfpjebfbaaDoor
open Go.RowKit Go.Shelf Go.Lib
set_option linter.unusedVariables false

theorem rem_yes {p : List Int} {acc : List ByteArray} {tx tk y t : ByteArray} {ln : Nat} (h1 : bl tx = jn (remL p (acc.map bl) 0)) (h2 : bl tk = bl tx ++ jn (List.replicate (cntTo p ln p.length) (bl remB))) (h3 : acc.length = ln) (h4 : (trimB y).size = 0) :
    bl (tk ++ (y ++ ⟨#[10]⟩) ++ ⟨#[32, 10, 10]⟩) = jn (remL p ((acc ++ [y]).map bl) 0) := by
  rw [List.map_append, List.map_cons, List.map_nil, remL_snoc, jn_app, ← h1, bl_app, bl_app, bl_app, h2]
  unfold remAt
  rw [jn_app, ofL_bl, if_pos h4, Nat.zero_add, List.length_map, h3]
  show bl tx ++ jn _ ++ (bl y ++ [10]) ++ [32, 10, 10] = bl tx ++ (jn _ ++ (bl y ++ [10] ++ [32, 10, 10]))
  simp only [List.append_assoc]
theorem rem_no {p : List Int} {acc : List ByteArray} {tx tk y t : ByteArray} {ln : Nat} (h1 : bl tx = jn (remL p (acc.map bl) 0)) (h2 : bl tk = bl tx ++ jn (List.replicate (cntTo p ln p.length) (bl remB))) (h3 : acc.length = ln) (h4 : (trimB y).size ≠ 0) :
    bl (tk ++ (y ++ ⟨#[10]⟩)) = jn (remL p ((acc ++ [y]).map bl) 0) := by
  rw [List.map_append, List.map_cons, List.map_nil, remL_snoc, jn_app, ← h1, bl_app, bl_app, h2]
  unfold remAt
  rw [jn_app, ofL_bl, if_neg h4, Nat.zero_add, List.length_map, h3]
  show bl tx ++ jn _ ++ (bl y ++ [10]) = bl tx ++ (jn _ ++ (bl y ++ [10] ++ []))
  simp only [List.append_assoc, List.append_nil]
theorem rem_size {tx tk : ByteArray} {c : Nat} (h : bl tk = bl tx ++ jn (List.replicate c (bl remB))) (hc : c ≤ 5) : tk.size ≤ tx.size + 60 := by
  have := congrArg List.length h
  rw [List.length_append, rems_len, bl_len, bl_len] at this
  omega
theorem rem_more {tx tk : ByteArray} {c : Nat} (h : bl tk = bl tx ++ jn (List.replicate c (bl remB))) : bl (tk ++ ⟨#[35, 32, 114, 101, 109, 97, 114, 107, 58, 32, 120, 10]⟩) = bl tx ++ jn (List.replicate (c + 1) (bl remB)) := by
  rw [List.replicate_succ', jn_snoc9, bl_app, h, List.append_assoc]
  rfl
set_option maxRecDepth 100000 in
set_option maxHeartbeats 4000000 in
theorem stanzaRemarks_any (A : Option Addr) (n cp : Nat) (bs : List Nat) (v2 : Value) (p : List Int) (w : World) (hb : Bytes w A n bs) (hcp : n ≤ cp) (hn : n < 4294967281) (hp : IntsAt w v2 p) (hpl : p.length ≤ 1048576) (hT : Lib.Utf8Tabs 0 1 w) (hM : MaxLenAt w) :
    Calls Tryd.prog 6 #[.slice A n cp, v2] w fun e w' => e = .returned (.bool true) ∧ Below w.heap.size w w' := by
  have HAW : Hid (∀ W, Hid (Below w.heap.size w W) → Calls Tryd.prog 14 #[] W fun e w' => e = .returned (.bool true) ∧ Below w.heap.size w w') := Lib.hid (fun W hW => (awake_any W (tabs_later hT hW.out) (hM.later hW.out)).mono fun e w' h => ⟨h.1, hW.out.trans (h.2.mono hW.out.size)⟩)
  have hTs : (toS bs).size = n := by rw [toS_size]; exact hb.1
  have hpa := Parse_any A n cp bs w hb hn hT hM
  cases hps : parseS (toS bs) with
  | error q =>
    have hq := parse_err hps
    rw [hps] at hpa
    obtain ⟨x, y⟩ := q
    have hpa : Calls Tryd.prog 11 #[.slice A n cp] w fun e w' => ∃ v, e = .returned (.tuple #[v, .agg #[.int .i64 x, .int .i64 (y : Int)]]) ∧ StzAt w' v [] ∧ Below w.heap.size w w' := hpa
    have HPA := Lib.hid hpa
    have q1 : (x != 0) = true := by rw [bne_iff_ne]; exact hq
    clear hpa hq hps hTs hn hb hT hM hcp hp
    go_enter Tryd.func6, Tryd.ntmps6
    go_upto_region 2 with (go_at_call 11; refine (HPA.out).mono ?_; rintro e w1 ⟨v1, rfl, ht1, hb1⟩)
    obtain ⟨W1, hW1⟩ : ∃ W1, W1 = w1.alloc (Obj.cells #[Value.int IntKind.i64 x, Value.int IntKind.i64 (y : Int)] 26) := ⟨_, rfl⟩
    have HK1 : Blk W1 w1.heap.size 26 #[Value.int IntKind.i64 x, Value.int IntKind.i64 (y : Int)] := by rw [hW1]; exact Blk.new _ _ _
    have HB1 : Hid (Below w.heap.size w W1) := Lib.hid (by rw [hW1]; exact hb1.alloc hb1.size _)
    have k0 : W1.cell? ⟨w1.heap.size, 0, none⟩ = some (.int .i64 x) := HK1.cell 0
    rw [← hW1]
    clear hW1 HK1 hb1 ht1
    go_wp2_with (go_at_call 14; refine (HAW.out _ HB1).mono ?_; rintro e w4 ⟨rfl, hb4⟩)
    go_ret
    exact ⟨rfl, hb4⟩
  | ok σ =>
    rw [hps] at hpa
    have h10 := ok10_parse hps
    obtain ⟨M, hMM⟩ : ∃ M, M = σ.all := ⟨_, rfl⟩
    rw [← hMM] at h10
    have hpa : Calls Tryd.prog 11 #[.slice A n cp] w fun e w' => ∃ v, e = .returned (.tuple #[v, .agg #[.int .i64 0, .int .i64 0]]) ∧ StzAt w' v M ∧ Below w.heap.size w w' := by rw [hMM]; exact hpa
    have HPA := Lib.hid hpa
    clear hpa
    go_enter Tryd.func6, Tryd.ntmps6
    go_upto_region 2 with (go_at_call 11; refine (HPA.out).mono ?_; rintro e w1 ⟨v1, rfl, ht1, hb1⟩)
    obtain ⟨W1, hW1⟩ : ∃ W1, W1 = w1.alloc (Obj.cells #[Value.int IntKind.i64 0, Value.int IntKind.i64 0] 26) := ⟨_, rfl⟩
    have HK1 : Blk W1 w1.heap.size 26 #[Value.int IntKind.i64 0, Value.int IntKind.i64 0] := by rw [hW1]; exact Blk.new _ _ _
    have HB1 : Hid (Below w.heap.size w W1) := Lib.hid (by rw [hW1]; exact hb1.alloc hb1.size _)
    have HS1 : Hid (StzAt W1 v1 M) := Lib.hid (ht1.below (by rw [hW1]; exact (Below.refl _ _).alloc (Nat.le_refl _) _))
    have k0 : W1.cell? ⟨w1.heap.size, 0, none⟩ = some (.int .i64 0) := HK1.cell 0
    rw [← hW1]
    clear hW1 HK1 hb1 ht1
    by_cases h3 : 3000 < n
    · have h3' : (3000 : Int) < (n : Int) := by omega
      clear hps hTs hn hb hT hM hcp hp h10 hMM h3
      go_wp2_with (go_at_call 14; refine (HAW.out _ HB1).mono ?_; rintro e w4 ⟨rfl, hb4⟩)
      go_ret
      exact ⟨rfl, hb4⟩
    have h3' : ¬ (3000 : Int) < (n : Int) := by omega
    have hn3 : n ≤ 3000 := by omega
    obtain ⟨hz5, σ2, hσ2, hfs⟩ := remarks_same p hps (by omega)
    obtain ⟨N, hNN⟩ : ∃ N, N = σ2.all := ⟨_, rfl⟩
    rw [← hMM, ← hNN] at hfs
    have HPB : Hid (∀ (W : World) (g c : Nat) (tx : ByteArray), bl tx = jn (remL p (rl (bl (toS bs)) []) 0) → Hid (Bytes W (some ⟨g, 0, none⟩) tx.size ((bl tx).map UInt8.toNat)) → Hid (Below w.heap.size w W) → Calls Tryd.prog 11 #[.slice (some ⟨g, 0, none⟩) tx.size c] W fun e w' => ∃ v, e = .returned (.tuple #[v, .agg #[.int .i64 0, .int .i64 0]]) ∧ Hid (StzAt w' v N) ∧ Below W.heap.size W w') := Lib.hid (fun W g c tx e hb hW => by
      have e2 : tx = ofL (jn (remL p (rl (bl (toS bs)) []) 0)) := bl_inj e
      have hz : tx.size ≤ 65536 := by rw [e2]; exact hz5
      refine (parse_bytes (c := c) hb.out (by omega) (by rw [e2]; exact hσ2) (tabs_later hT hW.out) (hM.later hW.out)).mono ?_
      rintro e w' ⟨v, rfl, k1, k2⟩
      exact ⟨v, rfl, Lib.hid (by rw [hNN]; exact k1), k2⟩)
    have HSM : Hid (∀ (W : World) (u v : Value), Hid (StzAt W u M) → Hid (StzAt W v N) → Hid (Below w.heap.size w W) → Calls Tryd.prog 13 #[u, v, .bool false] W fun e w' => e = .returned (.bool true) ∧ Hid (Below w.heap.size w w')) := Lib.hid (fun W u v x1 x2 hW => (SameStanzas_any false u v M N W x1.out x2.out (sameF hfs) h10.1 h10.2).mono fun e w' h => ⟨h.1, Lib.hid (hW.out.trans (h.2.mono hW.out.size))⟩)
    have hcv := fun b o (hA : A = some ⟨b, o, none⟩) fr i (hf : fr ≤ i) (hin : i ≤ n) cp => by
      have := run_string (some ⟨b, o + fr, none⟩) (i - fr) cp _ W1 ((hb.part hA fr i hf hin).below HB1.out)
      rwa [part_string] at this
    have hbyte := fun i (h : i < n) => toS_byte bs i (by have := hb.1; omega) (hb.lt i)
    obtain ⟨s, hs⟩ : ∃ s, s = toS bs := ⟨_, rfl⟩
    simp only [← hs] at hTs hcv hbyte HPB
    have HSN := Lib.hid hTs
    have HCV := Lib.hid hcv
    have HBY := Lib.hid hbyte
    have HBT : Hid (Bytes W1 A n bs) := Lib.hid (hb.below HB1.out)
    obtain ⟨B2, c2, rfl, hpc⟩ := hp.below HB1.out
    have HPC := Lib.hid hpc
    obtain ⟨m, hm⟩ : ∃ m, m = p.length := ⟨_, rfl⟩
    rw [← hm] at hpl ⊢
    have HML := Lib.hid hm
    clear hps hTs hn hb hT hM hp h10 hMM h3 hz5 hσ2 hNN hfs hcv hbyte hs hpc hm HPA
    go_wp2_with fail
    go_loopw [10, 9, 8, 7] (fun t u v x wr => ∃ (i fr ln : Nat) (tx : ByteArray) (acc : List ByteArray), t = .int .i64 (i : Int) ∧ u = .int .i64 (fr : Int) ∧ v = .int .i64 (ln : Int) ∧ x = .string tx ∧ Hid (RL s i fr acc) ∧ Hid (bl tx = jn (remL p (acc.map bl) 0)) ∧ Hid (acc.length = ln) ∧ ln ≤ i ∧ tx.size ≤ 4000 * i ∧ i ≤ n + 1 ∧ (i ≤ n → fr ≤ i) ∧ (i = n + 1 → n ≤ fr) ∧ Hid (wr = W1)) (fun t _ _ _ _ => n + 1 - (match t with | .int _ x => x.toNat | _ => 0))
    case atStart => exact ⟨0, 0, 0, (⟨#[]⟩ : ByteArray), [], rfl, rfl, rfl, rfl, Lib.hid (RL.start s), Lib.hid rfl, Lib.hid rfl, Nat.le_refl _, Nat.zero_le _, by omega, fun _ => Nat.le_refl _, fun h => by omega, Lib.hid rfl⟩
    case round =>
      obtain ⟨i, fr, ln, tx, acc, rfl, rfl, rfl, rfl, HRL, HTX, HLN, hlni, htx, hin, hfi, hfe, HW⟩ := hrel
      have hsz : n + 1 - (i : Int).toNat = n + 1 - i := by rw [Int.toNat_natCast]
      by_cases hle : i ≤ n
      case neg =>
        have hgt : ¬ (i : Int) ≤ (n : Int) := by omega
        have hie : i = n + 1 := by omega
        have HDN := Lib.hid (HRL.out.done (by rw [HSN.out]; omega) (by rw [HSN.out]; exact hfe hie))
        have HTF : Hid (bl tx = jn (remL p (rl (bl s) []) 0)) := Lib.hid (by rw [HTX.out, ← lines_bl, HDN.out])
        have hc := run_bytes_of_string (P := Tryd.prog) wr 9 22 5 tx Tryd.underlying9 Tryd.underlying22 Tryd.underlying5
        obtain ⟨cap, hcap⟩ : ∃ cap, cap = grownCap wr tx.size 0 5 := ⟨_, rfl⟩
        rw [← hcap] at hc
        obtain ⟨w2, hw2⟩ : ∃ w2, w2 = wr.drew.alloc (.cells (bytesRow tx cap) 5 ((bytesRow tx cap).size, (bytesRow tx cap).size + 1)) := ⟨_, rfl⟩
        rw [← hw2] at hc
        have HB2 : Hid (Below wr.heap.size wr w2) := Lib.hid (by rw [hw2]; exact (((Below.refl _ wr).drew).alloc (Nat.le_refl _) _))
        have HBW2 : Hid (Below w.heap.size w w2) := Lib.hid (by
          have h1 := HB2.out
          rw [HW.out] at h1
          exact HB1.out.trans (h1.mono HB1.out.size))
        have HBX : Hid (Bytes w2 (some ⟨wr.heap.size, 0, none⟩) tx.size ((bl tx).map UInt8.toNat)) := Lib.hid (by
          refine ⟨List.length_map _, fun x hx => ?_, fun h0 => ⟨_, 0, rfl, by rw [hw2]; simp, fun k hk => ?_⟩⟩
          · obtain ⟨y, _, rfl⟩ := List.mem_map.1 hx
            exact y.toNat_lt
          · have hblk : w2.heap[wr.heap.size]? = some (.cells (bytesRow tx cap) 5 ((bytesRow tx cap).size, (bytesRow tx cap).size + 1)) := by rw [hw2]; exact heap_alloc_new wr.drew _
            rw [cell_of_row w2 _ _ _ _ _ hblk, Nat.zero_add, bytesRow_at tx cap k hk, List.getD_eq_getElem?_getD, List.getElem?_map, List.getElem?_eq_getElem (show k < (bl tx).length from hk)]
            rw [← bl_get tx k hk]
            rfl)
        have HS2 : Hid (StzAt w2 v1 M) := Lib.hid (by
          have h1 := HB2.out
          rw [HW.out] at h1
          exact HS1.out.below h1)
        clear hcap hw2 hfi hfe hle hie hlni
        go_upto_region 24 with (go_at_call 11; refine (HPB.out _ _ _ _ HTF.out HBX HBW2).mono ?_; rintro e w3 ⟨v3, rfl, ht3, hb3⟩)
        obtain ⟨W3, hW3⟩ : ∃ W3, W3 = w3.alloc (Obj.cells #[Value.int IntKind.i64 0, Value.int IntKind.i64 0] 26) := ⟨_, rfl⟩
        have HK3 : Blk W3 w3.heap.size 26 #[Value.int IntKind.i64 0, Value.int IntKind.i64 0] := by rw [hW3]; exact Blk.new _ _ _
        have HB3 : Hid (Below w.heap.size w W3) := Lib.hid (by rw [hW3]; exact (HBW2.out.trans (hb3.mono HBW2.out.size)).alloc (HBW2.out.trans (hb3.mono HBW2.out.size)).size _)
        have HN3 : Hid (StzAt W3 v3 N) := Lib.hid (ht3.out.below (by rw [hW3]; exact (Below.refl _ _).alloc (Nat.le_refl _) _))
        have HS3 : Hid (StzAt W3 v1 M) := Lib.hid ((HS2.out.below hb3).below (by rw [hW3]; exact (Below.refl _ _).alloc (Nat.le_refl _) _))
        have k2 : W3.cell? ⟨w3.heap.size, 0, none⟩ = some (.int .i64 0) := HK3.cell 0
        rw [← hW3]
        clear hW3 HK3 hb3 ht3 hc
        go_wp2_with (first | (go_at_call 13; refine (HSM.out _ _ _ HS3 HN3 HB3).mono ?_; rintro e w5 ⟨rfl, hb5⟩) | (go_at_call 14; refine (HAW.out _ hb5).mono ?_; rintro e w6 ⟨rfl, hb6⟩))
        go_ret
        exact ⟨rfl, hb6⟩
      have hlei : (i : Int) ≤ (n : Int) := by omega
      have hfr := hfi hle
      clear hfi hfe
      by_cases hlt : i < n
      · have hln : (i : Int) < (n : Int) := by omega
        have hne : ((i : Int) == (n : Int)) = false := by rw [beq_eq_false_iff_ne]; omega
        obtain ⟨b, o, rfl, hbl, hcell⟩ := HBT.out.2.2 (by omega)
        have k1 : wr.cell? ⟨b, o + i, none⟩ = some (.int .u8 ((bs.getD i 0 : Nat) : Int)) := by rw [HW.out]; exact hcell i hlt
        have HBI := Lib.hid (HBY.out i hlt)
        obtain ⟨q, hq⟩ : ∃ q, q = bs.getD i 0 := ⟨_, rfl⟩
        rw [← hq] at k1 HBI
        clear hq hcell
        by_cases h10 : q = 10
        case neg =>
          have q2 : ((q : Int) != 10) = true := by rw [bne_iff_ne]; omega
          have HNX := Lib.hid (HRL.out.ink (by rw [HSN.out]; exact hlt) hfr (by rw [HBI.out]; exact h10))
          clear h10
          go_wp2_with fail
          refine ⟨⟨i + 1, fr, ln, tx, acc, by go_num, rfl, rfl, rfl, HNX, HTX, HLN, by omega, by omega, by omega, fun _ => by omega, fun h => by omega, HW⟩, ?_⟩
          show n + 1 - ((i : Int) + 1).toNat < n + 1 - (i : Int).toNat
          omega
        have q2 : ((q : Int) != 10) = false := by rw [h10]; rfl
        have HNX := Lib.hid (HRL.out.feed (by rw [HSN.out]; exact hlt) hfr (HBI.out.trans h10))
        clear h10
        have hfrc : ¬ cp = fr := by omega
        have hcv := HCV.out b o rfl fr i hfr hle (cp - fr)
        rw [← HW.out] at hcv
        have hys : (s.extract fr i).size ≤ 3000 := by rw [ByteArray.size_extract]; omega
        obtain ⟨y, hy⟩ : ∃ y, y = s.extract fr i := ⟨_, rfl⟩
        rw [← hy] at hcv HNX hys
        clear hy
        go_upto_region 14 with fail
        go_loopw [67, 7] (fun t x wy => ∃ (k : Nat) (tk : ByteArray), t = .int .i64 (k : Int) ∧ x = .string tk ∧ k ≤ m ∧ Hid (bl tk = bl tx ++ jn (List.replicate (cntTo p ln k) (bl remB))) ∧ tk.size ≤ tx.size + 60 ∧ Hid (wy = W1)) (fun t _ _ => m - (match t with | .int _ x => x.toNat | _ => 0))
        case atStart => exact ⟨0, tx, rfl, rfl, Nat.zero_le _, Lib.hid (by rw [cntTo_zero]; exact (List.append_nil _).symm), by omega, HW⟩
        case round =>
          obtain ⟨k, tk, rfl, rfl, hk, HTK, htk, HWY⟩ := hrel
          rename World => wy
          by_cases hkm : k < m
          · have hkn : (k : Int) < (m : Int) := by omega
            have hkl : k < p.length := by have := HML.out; omega
            obtain ⟨pg, po, rfl, hpc⟩ := HPC.out k hkl
            obtain ⟨z, hz⟩ : ∃ z, z = p[k] := ⟨_, rfl⟩
            have hst := cntTo_step (j := ln) hkl
            rw [← hz] at hpc hst
            have k2 : wy.cell? ⟨pg, po + k, none⟩ = some (.int .i64 z) := by rw [HWY.out]; exact hpc
            clear hpc hz
            by_cases h5 : k < 5
            · have h5' : (k : Int) < 5 := by omega
              by_cases hzl : z = (ln : Int)
              · have hzl' : (z == (ln : Int)) = true := by rw [beq_iff_eq]; exact hzl
                rw [if_pos ⟨h5, hzl⟩] at hst
                have HTK2 : Hid (bl (tk ++ ⟨#[35, 32, 114, 101, 109, 97, 114, 107, 58, 32, 120, 10]⟩) = bl tx ++ jn (List.replicate (cntTo p ln (k + 1)) (bl remB))) := Lib.hid (by rw [hst]; exact rem_more HTK.out)
                have htk2 := rem_size HTK2.out (cntTo_le p ln (k + 1))
                clear hst hzl h5
                go_wp2_with fail
                refine ⟨⟨k + 1, _, by go_num, rfl, by omega, HTK2, htk2, HWY⟩, ?_⟩
                show m - ((k : Int) + 1).toNat < m - (k : Int).toNat
                omega
              · have hzl' : (z == (ln : Int)) = false := by rw [beq_eq_false_iff_ne]; exact hzl
                rw [if_neg (fun h => hzl h.2)] at hst
                have HTK2 : Hid (bl tk = bl tx ++ jn (List.replicate (cntTo p ln (k + 1)) (bl remB))) := Lib.hid (by rw [hst]; exact HTK.out)
                clear hst hzl h5
                go_wp2_with fail
                refine ⟨⟨k + 1, _, by go_num, rfl, by omega, HTK2, htk, HWY⟩, ?_⟩
                show m - ((k : Int) + 1).toNat < m - (k : Int).toNat
                omega
            · have h5' : ¬ (k : Int) < 5 := by omega
              rw [if_neg (fun h => h5 h.1)] at hst
              have HTK2 : Hid (bl tk = bl tx ++ jn (List.replicate (cntTo p ln (k + 1)) (bl remB))) := Lib.hid (by rw [hst]; exact HTK.out)
              clear hst h5
              go_wp2_with fail
              refine ⟨⟨k + 1, _, by go_num, rfl, by omega, HTK2, htk, HWY⟩, ?_⟩
              show m - ((k : Int) + 1).toNat < m - (k : Int).toNat
              omega
          · have hkn : ¬ (k : Int) < (m : Int) := by omega
            have HTK2 : Hid (bl tk = bl tx ++ jn (List.replicate (cntTo p ln p.length) (bl remB))) := Lib.hid (by
              have : k = p.length := by have := HML.out; omega
              rw [← this]
              exact HTK.out)
            have HTR := Lib.hid (fun W => RefTrim_any y W (by omega))
            obtain ⟨x, hx⟩ : ∃ x, x = trimB y := ⟨_, rfl⟩
            rw [← hx] at HTR
            have hbe := blank_eq x
            have HLN2 : Hid ((acc ++ [y]).length = ln + 1) := Lib.hid (by rw [List.length_append, HLN.out]; rfl)
            by_cases hx0 : x.size = 0
            · have HTX2 : Hid (bl (tk ++ (y ++ ⟨#[10]⟩) ++ ⟨#[32, 10, 10]⟩) = jn (remL p ((acc ++ [y]).map bl) 0)) := Lib.hid (rem_yes (t := tx) HTX.out HTK2.out HLN.out (by rw [← hx]; exact hx0))
              have hsz2 : (tk ++ (y ++ ⟨#[10]⟩) ++ ⟨#[32, 10, 10]⟩).size ≤ 4000 * (i + 1) := by
                rw [app_size, app_size, app_size]
                have e1 : (⟨#[10]⟩ : ByteArray).size = 1 := rfl
                have e2 : (⟨#[32, 10, 10]⟩ : ByteArray).size = 3 := rfl
                omega
              rw [decide_eq_true hx0] at hbe
              clear hx hx0 hcv
              go_wp2_with (go_at_call 21; refine (HTR.out _).mono ?_; rintro e w9 ⟨rfl, rfl⟩)
              refine ⟨⟨i + 1, i + 1, ln + 1, _, acc ++ [y], by go_num, by go_num, by go_num, rfl, HNX, HTX2, HLN2, by omega, hsz2, by omega, fun _ => Nat.le_refl _, fun _ => by omega, HWY⟩, ?_⟩
              show n + 1 - ((i : Int) + 1).toNat < n + 1 - (i : Int).toNat
              omega
            · have HTX2 : Hid (bl (tk ++ (y ++ ⟨#[10]⟩)) = jn (remL p ((acc ++ [y]).map bl) 0)) := Lib.hid (rem_no (t := tx) HTX.out HTK2.out HLN.out (by rw [← hx]; exact hx0))
              have hsz2 : (tk ++ (y ++ ⟨#[10]⟩)).size ≤ 4000 * (i + 1) := by
                rw [app_size, app_size]
                have e1 : (⟨#[10]⟩ : ByteArray).size = 1 := rfl
                omega
              rw [decide_eq_false hx0] at hbe
              clear hx hx0 hcv
              go_wp2_with (go_at_call 21; refine (HTR.out _).mono ?_; rintro e w9 ⟨rfl, rfl⟩)
              refine ⟨⟨i + 1, i + 1, ln + 1, _, acc ++ [y], by go_num, by go_num, by go_num, rfl, HNX, HTX2, HLN2, by omega, hsz2, by omega, fun _ => Nat.le_refl _, fun _ => by omega, HWY⟩, ?_⟩
              show n + 1 - ((i : Int) + 1).toNat < n + 1 - (i : Int).toNat
              omega
      · have hln : ¬ (i : Int) < (n : Int) := by omega
        have hie : i = n := by omega
        have hne : ((i : Int) == (n : Int)) = true := by rw [beq_iff_eq]; omega
        by_cases hff : fr = i
        · have q2 : ((fr : Int) == (i : Int)) = true := by rw [beq_iff_eq]; omega
          have HNX := Lib.hid (HRL.out.stay (by rw [HSN.out]; exact hie) hff)
          have hfn : n ≤ fr := by omega
          clear hie hff
          go_wp2_with fail
          refine ⟨⟨i + 1, fr, ln, tx, acc, by go_num, rfl, rfl, rfl, HNX, HTX, HLN, by omega, by omega, by omega, fun h => by omega, fun _ => hfn, HW⟩, ?_⟩
          show n + 1 - ((i : Int) + 1).toNat < n + 1 - (i : Int).toNat
          omega
        have q2 : ((fr : Int) == (i : Int)) = false := by rw [beq_eq_false_iff_ne]; omega
        obtain ⟨b, o, rfl, hbl, hcell⟩ := HBT.out.2.2 (by omega)
        have HNX := Lib.hid (HRL.out.last (by rw [HSN.out]; exact hie) (by omega))
        have hfrc : ¬ cp = fr := by omega
        clear hcell hie hff
        have hcv := HCV.out b o rfl fr i hfr hle (cp - fr)
        rw [← HW.out] at hcv
        have hys : (s.extract fr i).size ≤ 3000 := by rw [ByteArray.size_extract]; omega
        obtain ⟨y, hy⟩ : ∃ y, y = s.extract fr i := ⟨_, rfl⟩
        rw [← hy] at hcv HNX hys
        clear hy
        go_upto_region 14 with fail
        go_loopw [67, 7] (fun t x wy => ∃ (k : Nat) (tk : ByteArray), t = .int .i64 (k : Int) ∧ x = .string tk ∧ k ≤ m ∧ Hid (bl tk = bl tx ++ jn (List.replicate (cntTo p ln k) (bl remB))) ∧ tk.size ≤ tx.size + 60 ∧ Hid (wy = W1)) (fun t _ _ => m - (match t with | .int _ x => x.toNat | _ => 0))
        case atStart => exact ⟨0, tx, rfl, rfl, Nat.zero_le _, Lib.hid (by rw [cntTo_zero]; exact (List.append_nil _).symm), by omega, HW⟩
        case round =>
          obtain ⟨k, tk, rfl, rfl, hk, HTK, htk, HWY⟩ := hrel
          rename World => wy
          by_cases hkm : k < m
          · have hkn : (k : Int) < (m : Int) := by omega
            have hkl : k < p.length := by have := HML.out; omega
            obtain ⟨pg, po, rfl, hpc⟩ := HPC.out k hkl
            obtain ⟨z, hz⟩ : ∃ z, z = p[k] := ⟨_, rfl⟩
            have hst := cntTo_step (j := ln) hkl
            rw [← hz] at hpc hst
            have k2 : wy.cell? ⟨pg, po + k, none⟩ = some (.int .i64 z) := by rw [HWY.out]; exact hpc
            clear hpc hz
            by_cases h5 : k < 5
            · have h5' : (k : Int) < 5 := by omega
              by_cases hzl : z = (ln : Int)
              · have hzl' : (z == (ln : Int)) = true := by rw [beq_iff_eq]; exact hzl
                rw [if_pos ⟨h5, hzl⟩] at hst
                have HTK2 : Hid (bl (tk ++ ⟨#[35, 32, 114, 101, 109, 97, 114, 107, 58, 32, 120, 10]⟩) = bl tx ++ jn (List.replicate (cntTo p ln (k + 1)) (bl remB))) := Lib.hid (by rw [hst]; exact rem_more HTK.out)
                have htk2 := rem_size HTK2.out (cntTo_le p ln (k + 1))
                clear hst hzl h5
                go_wp2_with fail
                refine ⟨⟨k + 1, _, by go_num, rfl, by omega, HTK2, htk2, HWY⟩, ?_⟩
                show m - ((k : Int) + 1).toNat < m - (k : Int).toNat
                omega
              · have hzl' : (z == (ln : Int)) = false := by rw [beq_eq_false_iff_ne]; exact hzl
                rw [if_neg (fun h => hzl h.2)] at hst
                have HTK2 : Hid (bl tk = bl tx ++ jn (List.replicate (cntTo p ln (k + 1)) (bl remB))) := Lib.hid (by rw [hst]; exact HTK.out)
                clear hst hzl h5
                go_wp2_with fail
                refine ⟨⟨k + 1, _, by go_num, rfl, by omega, HTK2, htk, HWY⟩, ?_⟩
                show m - ((k : Int) + 1).toNat < m - (k : Int).toNat
                omega
            · have h5' : ¬ (k : Int) < 5 := by omega
              rw [if_neg (fun h => h5 h.1)] at hst
              have HTK2 : Hid (bl tk = bl tx ++ jn (List.replicate (cntTo p ln (k + 1)) (bl remB))) := Lib.hid (by rw [hst]; exact HTK.out)
              clear hst h5
              go_wp2_with fail
              refine ⟨⟨k + 1, _, by go_num, rfl, by omega, HTK2, htk, HWY⟩, ?_⟩
              show m - ((k : Int) + 1).toNat < m - (k : Int).toNat
              omega
          · have hkn : ¬ (k : Int) < (m : Int) := by omega
            have HTK2 : Hid (bl tk = bl tx ++ jn (List.replicate (cntTo p ln p.length) (bl remB))) := Lib.hid (by
              have : k = p.length := by have := HML.out; omega
              rw [← this]
              exact HTK.out)
            have HTR := Lib.hid (fun W => RefTrim_any y W (by omega))
            obtain ⟨x, hx⟩ : ∃ x, x = trimB y := ⟨_, rfl⟩
            rw [← hx] at HTR
            have hbe := blank_eq x
            have HLN2 : Hid ((acc ++ [y]).length = ln + 1) := Lib.hid (by rw [List.length_append, HLN.out]; rfl)
            by_cases hx0 : x.size = 0
            · have HTX2 : Hid (bl (tk ++ (y ++ ⟨#[10]⟩) ++ ⟨#[32, 10, 10]⟩) = jn (remL p ((acc ++ [y]).map bl) 0)) := Lib.hid (rem_yes (t := tx) HTX.out HTK2.out HLN.out (by rw [← hx]; exact hx0))
              have hsz2 : (tk ++ (y ++ ⟨#[10]⟩) ++ ⟨#[32, 10, 10]⟩).size ≤ 4000 * (i + 1) := by
                rw [app_size, app_size, app_size]
                have e1 : (⟨#[10]⟩ : ByteArray).size = 1 := rfl
                have e2 : (⟨#[32, 10, 10]⟩ : ByteArray).size = 3 := rfl
                omega
              rw [decide_eq_true hx0] at hbe
              clear hx hx0 hcv
              go_wp2_with (go_at_call 21; refine (HTR.out _).mono ?_; rintro e w9 ⟨rfl, rfl⟩)
              refine ⟨⟨i + 1, i + 1, ln + 1, _, acc ++ [y], by go_num, by go_num, by go_num, rfl, HNX, HTX2, HLN2, by omega, hsz2, by omega, fun _ => Nat.le_refl _, fun _ => by omega, HWY⟩, ?_⟩
              show n + 1 - ((i : Int) + 1).toNat < n + 1 - (i : Int).toNat
              omega
            · have HTX2 : Hid (bl (tk ++ (y ++ ⟨#[10]⟩)) = jn (remL p ((acc ++ [y]).map bl) 0)) := Lib.hid (rem_no (t := tx) HTX.out HTK2.out HLN.out (by rw [← hx]; exact hx0))
              have hsz2 : (tk ++ (y ++ ⟨#[10]⟩)).size ≤ 4000 * (i + 1) := by
                rw [app_size, app_size]
                have e1 : (⟨#[10]⟩ : ByteArray).size = 1 := rfl
                omega
              rw [decide_eq_false hx0] at hbe
              clear hx hx0 hcv
              go_wp2_with (go_at_call 21; refine (HTR.out _).mono ?_; rintro e w9 ⟨rfl, rfl⟩)
              refine ⟨⟨i + 1, i + 1, ln + 1, _, acc ++ [y], by go_num, by go_num, by go_num, rfl, HNX, HTX2, HLN2, by omega, hsz2, by omega, fun _ => Nat.le_refl _, fun _ => by omega, HWY⟩, ?_⟩
              show n + 1 - ((i : Int) + 1).toNat < n + 1 - (i : Int).toNat
              omega
section
open Go.ChangeShapes Go.WideShapes Go.ChangeAt Go.ChangeMaps
set_option maxRecDepth 100000 in
theorem stanzaRemarks_walk {H : Type} {enc : TypeId × Value → H} (W : World) {base : Nat} (v0 v1 : Value) {d0 d1 : DataW H} {p0 p1 : List MemPlace}
    (h0 : DataW.Trod enc Tryd.prog W 0 (fun _ => true) true 22 v0 d0 p0) (o0 : Value.okWide Tryd.prog W .any base 22 v0)
    (h1 : DataW.Trod enc Tryd.prog W 0 (fun _ => true) true 46 v1 d1 p1) (o1 : Value.okWide Tryd.prog W .any base 46 v1)
    (hT : Lib.Utf8Tabs 0 1 W) (hS : W.ShapedOpen Tryd.prog) (hk : Rows.uptoBulkAll [d0, d1] ≤ 1048576) :
    Calls Tryd.prog 6 #[v0, v1] W fun e w' => e = .returned (.bool true) ∧ Below W.heap.size W w' := by
  obtain ⟨A, n, cp, bs, rfl, hb, hcp, _, hd, _⟩ := open_bytes h0 o0
  obtain ⟨zs, hz, hzl⟩ := open_nums h1 o1
  simp only [Rows.uptoBulkAll] at hk
  exact stanzaRemarks_any A n cp bs v1 zs W hb hcp (by omega) hz (by omega) hT (MaxLenAt.of hS)
end
end Go.Proofs.YtjkaigfpjebfbaaDoor
