/- StanzaParsed: the walk. -/
import Derived.Test.YtjkaigfpjebfbaaDoorStanzaBackWalk
import Derived.Test.YtjkaigfpjebfbaaDoorSt30
namespace Go.Proofs.YtjkaigfpjebfbaaDoor
open Go.RowKit Go.Shelf Go.Lib
set_option linter.unusedVariables false

theorem ok9_parse {T : ByteArray} {σ : PS} (h : parseS T = .ok σ) (hz : T.size ≤ 20000) : Ok9 σ.all := by
  have h1 := SOk.parse h
  have h2 := Tot.parse h
  refine ⟨by have := h1.1; omega, fun s hs => ⟨by have := (h1.2 s hs).2.1; omega, fun f hf => ?_⟩⟩
  have := h2 s hs f hf
  omega
theorem ok10_parse {T : ByteArray} {σ : PS} (h : parseS T = .ok σ) : Ok10 σ.all := by
  have h1 := parse_lim T
  rw [h] at h1
  have h1 : Lim 65537 σ.all := h1
  exact ⟨by have := h1.1; omega, fun s hs => ⟨by have := (h1.2 s hs).1; omega, fun f hf => by have := (h1.2 s hs).2 f hf; omega⟩⟩
set_option maxRecDepth 100000 in
set_option maxHeartbeats 4000000 in
theorem stanzaParsed_any (A : Option Addr) (n cp : Nat) (bs : List Nat) (w : World) (hb : Bytes w A n bs) (hcp : n ≤ cp) (hT : Lib.Utf8Tabs 0 1 w) (hM : MaxLenAt w) :
    Calls Tryd.prog 9 #[.slice A n cp] w fun e w' => e = .returned (.bool true) ∧ Below w.heap.size w w' := by
  have HAW : Hid (∀ W, Hid (Below w.heap.size w W) → Calls Tryd.prog 14 #[] W fun e w' => e = .returned (.bool true) ∧ Below w.heap.size w w') := Lib.hid (fun W hW => (awake_any W (tabs_later hT hW.out) (hM.later hW.out)).mono fun e w' h => ⟨h.1, hW.out.trans (h.2.mono hW.out.size)⟩)
  have HB0 : Hid (Below w.heap.size w w) := Lib.hid (Below.refl _ _)
  by_cases hn : 20000 < n
  · have hn' : (20000 : Int) < (n : Int) := by omega
    clear hT hM hb hn hcp
    go_enter Tryd.func9, Tryd.ntmps9
    go_wp2_with (go_at_call 14; refine (HAW.out _ (by assumption)).mono ?_; rintro e w4 ⟨rfl, hb4⟩)
    go_ret
    exact ⟨rfl, hb4⟩
  have hn' : ¬ (20000 : Int) < (n : Int) := by omega
  have hTs : (toS bs).size = n := by rw [toS_size]; exact hb.1
  have hpa := Parse_any A n cp bs w hb (by omega) hT hM
  obtain ⟨T, hTT⟩ : ∃ T, T = toS bs := ⟨_, rfl⟩
  rw [← hTT] at hTs hpa
  cases hps : parseS T with
  | error q =>
    have hq := parse_err hps
    rw [hps] at hpa
    obtain ⟨x, y⟩ := q
    have hpa : Calls Tryd.prog 11 #[.slice A n cp] w fun e w' => ∃ v, e = .returned (.tuple #[v, .agg #[.int .i64 x, .int .i64 (y : Int)]]) ∧ StzAt w' v [] ∧ Below w.heap.size w w' := hpa
    have HPA := Lib.hid hpa
    have q1 : (x != 0) = true := by rw [bne_iff_ne]; exact hq
    have q2 : (0 : Int) ≤ (y : Int) := Int.natCast_nonneg y
    clear hpa hq hps hTT hTs hn hb hT hM hcp
    go_enter Tryd.func9, Tryd.ntmps9
    go_upto_region 4 with (go_at_call 11; refine (HPA.out).mono ?_; rintro e w1 ⟨v1, rfl, ht1, hb1⟩; obtain ⟨G, A1, c1, xs, rfl, _⟩ := ht1)
    obtain ⟨W1, hW1⟩ : ∃ W1, W1 = w1.alloc (Obj.cells #[Value.int IntKind.i64 x, Value.int IntKind.i64 (y : Int)] 26) := ⟨_, rfl⟩
    have HK1 : Blk W1 w1.heap.size 26 #[Value.int IntKind.i64 x, Value.int IntKind.i64 (y : Int)] := by rw [hW1]; exact Blk.new _ _ _
    have HB1 : Hid (Below w.heap.size w W1) := Lib.hid (by rw [hW1]; exact hb1.alloc hb1.size _)
    have k0 : W1.cell? ⟨w1.heap.size, 0, none⟩ = some (.int .i64 x) := HK1.cell 0
    have k1 : W1.cell? ⟨w1.heap.size, 1, none⟩ = some (.int .i64 (y : Int)) := HK1.cell 1
    rw [← hW1]
    clear hW1 HK1 hb1
    go_wp2_with (go_at_call 14; refine (HAW.out _ HB1).mono ?_; rintro e w4 ⟨rfl, hb4⟩)
    go_ret
    exact ⟨rfl, hb4⟩
  | ok σ =>
    rw [hps] at hpa
    have h9 := ok9_parse hps (by omega)
    have h10 := ok10_parse hps
    have hpr := (SOk.parse hps).print
    obtain ⟨M, hMM⟩ : ∃ M, M = σ.all := ⟨_, rfl⟩
    rw [← hMM] at h9 h10 hpr
    have hpa : Calls Tryd.prog 11 #[.slice A n cp] w fun e w' => ∃ v, e = .returned (.tuple #[v, .agg #[.int .i64 0, .int .i64 0]]) ∧ StzAt w' v M ∧ Below w.heap.size w w' := by rw [hMM]; exact hpa
    have HPA := Lib.hid hpa
    have HPR : Hid (∀ u W, Hid (StzAt W u M) → Hid (Below w.heap.size w W) → Calls Tryd.prog 22 #[u] W fun e w' => ∃ v, e = .returned (.tuple #[v, .int .i64 ((printE M : Nat) : Int)]) ∧ BytesAt w' v (printT M) ∧ Below W.heap.size W w') := Lib.hid (fun u W hu hW => h9.print u W hu.out (tabs_later hT hW.out))
    rcases hpr with hr | hr
    case inr =>
      simp only [hr] at HPR
      clear hpa hps hTT hTs hn hb hT hM hcp h9 h10 hr hMM
      go_enter Tryd.func9, Tryd.ntmps9
      go_upto_region 4 with (go_at_call 11; refine (HPA.out).mono ?_; rintro e w1 ⟨v1, rfl, ht1, hb1⟩)
      obtain ⟨W1, hW1⟩ : ∃ W1, W1 = w1.alloc (Obj.cells #[Value.int IntKind.i64 0, Value.int IntKind.i64 0] 26) := ⟨_, rfl⟩
      have HK1 : Blk W1 w1.heap.size 26 #[Value.int IntKind.i64 0, Value.int IntKind.i64 0] := by rw [hW1]; exact Blk.new _ _ _
      have HB1 : Hid (Below w.heap.size w W1) := Lib.hid (by rw [hW1]; exact hb1.alloc hb1.size _)
      have HS1 : Hid (StzAt W1 v1 M) := Lib.hid (ht1.below (by rw [hW1]; exact (Below.refl _ _).alloc (Nat.le_refl _) _))
      have k0 : W1.cell? ⟨w1.heap.size, 0, none⟩ = some (.int .i64 0) := HK1.cell 0
      rw [← hW1]
      clear hW1 HK1 hb1 ht1
      go_wp2_with (first | (go_at_call 22; refine (HPR.out _ _ HS1 HB1).mono ?_; rintro e w2 ⟨u2, rfl, _, hb2⟩; have HB2 := Lib.hid (HB1.out.trans (hb2.mono HB1.out.size)); clear hb2) | (go_at_call 14; refine (HAW.out _ HB2).mono ?_; rintro e w4 ⟨rfl, hb4⟩))
      go_ret
      exact ⟨rfl, hb4⟩
    case inl =>
      obtain ⟨σ2, hσ2, hfs⟩ := print_back hr
      obtain ⟨N, hNN⟩ : ∃ N, N = σ2.all := ⟨_, rfl⟩
      rw [← hNN] at hfs
      have hTl := printT_len hr
      have HPB : Hid (∀ (W : World) (A : Option Addr) (n c : Nat), Hid (n = (printT M).size ∧ Bytes W A n ((bl (printT M)).map UInt8.toNat)) → Hid (Below w.heap.size w W) → Calls Tryd.prog 11 #[.slice A n c] W fun e w' => ∃ v, e = .returned (.tuple #[v, .agg #[.int .i64 0, .int .i64 0]]) ∧ Hid (StzAt w' v N) ∧ Below W.heap.size W w') := Lib.hid (fun W A n c hb hW => by
        refine (parse_bytes (c := c) hb.out.2 (by rw [hb.out.1]; omega) hσ2 (tabs_later hT hW.out) (hM.later hW.out)).mono ?_
        rintro e w' ⟨v, rfl, k1, k2⟩
        exact ⟨v, rfl, Lib.hid (by rw [hNN]; exact k1), k2⟩)
      have HSM : Hid (∀ (W : World) (u v : Value), Hid (StzAt W u M) → Hid (StzAt W v N) → Hid (Below w.heap.size w W) → Calls Tryd.prog 13 #[u, v, .bool false] W fun e w' => e = .returned (.bool true) ∧ Hid (Below w.heap.size w w')) := Lib.hid (fun W u v x1 x2 hW => (SameStanzas_any false u v M N W x1.out x2.out (sameF hfs.symm) h10.1 h10.2).mono fun e w' h => ⟨h.1, Lib.hid (hW.out.trans (h.2.mono hW.out.size))⟩)
      simp only [hr] at HPR
      obtain ⟨TT, hTT9⟩ : ∃ TT, TT = printT M := ⟨_, rfl⟩
      simp only [← hTT9] at HPR HPB
      clear hpa hps hTT hTs hn hb hT hM hcp h9 h10 hr hMM hσ2 hNN hfs hTl hTT9
      go_enter Tryd.func9, Tryd.ntmps9
      go_upto_region 4 with (go_at_call 11; refine (HPA.out).mono ?_; rintro e w1 ⟨v1, rfl, ht1, hb1⟩)
      obtain ⟨W1, hW1⟩ : ∃ W1, W1 = w1.alloc (Obj.cells #[Value.int IntKind.i64 0, Value.int IntKind.i64 0] 26) := ⟨_, rfl⟩
      have HK1 : Blk W1 w1.heap.size 26 #[Value.int IntKind.i64 0, Value.int IntKind.i64 0] := by rw [hW1]; exact Blk.new _ _ _
      have HB1 : Hid (Below w.heap.size w W1) := Lib.hid (by rw [hW1]; exact hb1.alloc hb1.size _)
      have HS1 : Hid (StzAt W1 v1 M) := Lib.hid (ht1.below (by rw [hW1]; exact (Below.refl _ _).alloc (Nat.le_refl _) _))
      have k0 : W1.cell? ⟨w1.heap.size, 0, none⟩ = some (.int .i64 0) := HK1.cell 0
      rw [← hW1]
      clear hW1 HK1 hb1 ht1
      go_upto_region 9 with (go_at_call 22; refine (HPR.out _ _ HS1 HB1).mono ?_; rintro e w2 ⟨u2, rfl, hby, hb2⟩; have HB2 := Lib.hid (HB1.out.trans (hb2.mono HB1.out.size)); have HS2 := Lib.hid (HS1.out.below hb2); obtain ⟨A2, n2, c2, rfl, e2, _, e3, _⟩ := hby.strs; have HBY := Lib.hid (And.intro e2 e3); clear hb2 hby e2 e3)
      go_upto_region 10 with (go_at_call 11; refine (HPB.out _ _ _ _ HBY HB2).mono ?_; rintro e w3 ⟨v3, rfl, ht3, hb3⟩)
      obtain ⟨W3, hW3⟩ : ∃ W3, W3 = w3.alloc (Obj.cells #[Value.int IntKind.i64 0, Value.int IntKind.i64 0] 26) := ⟨_, rfl⟩
      have HK3 : Blk W3 w3.heap.size 26 #[Value.int IntKind.i64 0, Value.int IntKind.i64 0] := by rw [hW3]; exact Blk.new _ _ _
      have HB3 : Hid (Below w.heap.size w W3) := Lib.hid (by rw [hW3]; exact (HB2.out.trans (hb3.mono HB2.out.size)).alloc (HB2.out.trans (hb3.mono HB2.out.size)).size _)
      have HN3 : Hid (StzAt W3 v3 N) := Lib.hid (ht3.out.below (by rw [hW3]; exact (Below.refl _ _).alloc (Nat.le_refl _) _))
      have HS3 : Hid (StzAt W3 v1 M) := Lib.hid ((HS2.out.below hb3).below (by rw [hW3]; exact (Below.refl _ _).alloc (Nat.le_refl _) _))
      have k2 : W3.cell? ⟨w3.heap.size, 0, none⟩ = some (.int .i64 0) := HK3.cell 0
      rw [← hW3]
      clear hW3 HK3 hb3 ht3
      go_wp2_with (first | (go_at_call 13; refine (HSM.out _ _ _ HS3 HN3 HB3).mono ?_; rintro e w5 ⟨rfl, hb5⟩) | (go_at_call 14; refine (HAW.out _ hb5).mono ?_; rintro e w6 ⟨rfl, hb6⟩))
      go_ret
      exact ⟨rfl, hb6⟩
section
open Go.ChangeShapes Go.WideShapes Go.ChangeAt Go.ChangeMaps
set_option maxRecDepth 100000 in
theorem stanzaParsed_walk {H : Type} {enc : TypeId × Value → H} (W : World) {base : Nat} (v0 : Value) {d0 : DataW H} {p0 : List MemPlace} (h0 : DataW.Trod enc Tryd.prog W 0 (fun _ => true) true 22 v0 d0 p0) (o0 : Value.okWide Tryd.prog W .any base 22 v0)
    (hT : Lib.Utf8Tabs 0 1 W) (hS : W.ShapedOpen Tryd.prog) :
    Calls Tryd.prog 9 #[v0] W fun e w' => e = .returned (.bool true) ∧ Below W.heap.size W w' := by
  obtain ⟨A, n, cp, bs, rfl, hb, hcp, _, hd, _⟩ := open_bytes h0 o0
  exact stanzaParsed_any A n cp bs W hb hcp hT (MaxLenAt.of hS)
end
end Go.Proofs.YtjkaigfpjebfbaaDoor
