/- StanzaBack: the walk. -/
import Derived.Test.YtjkaigfpjebfbaaDoorStanzaPrintsWalk
namespace Go.Proofs.YtjkaigfpjebfbaaDoor
open Go.RowKit Go.Shelf Go.Lib
set_option linter.unusedVariables false

theorem BytesAt.strs {w : World} {v : Value} {T : ByteArray} (h : BytesAt w v T) : ∃ A n c, v = .slice A n c ∧ n = T.size ∧ n ≤ c ∧ Bytes w A n ((bl T).map UInt8.toNat) ∧ ∀ W, Below w.heap.size w W → (convert 22 9 (.slice A n c)).run Tryd.prog W = .ok (.string T) W := by
  obtain ⟨A, c, rfl, hc, hb⟩ := h
  refine ⟨A, _, c, rfl, rfl, hc, hb, fun W hW => ?_⟩
  have := run_string A T.size c _ W (hb.below hW)
  rw [toS_bl] at this
  exact this
theorem fsOf_mem {L M : List St} (h : fsOf L = fsOf M) : ∀ s ∈ M, ∃ s' ∈ L, s'.fs = s.fs := fun s hs => by
  have : s.fs ∈ fsOf M := List.mem_map.2 ⟨s, hs, rfl⟩
  rw [← h] at this
  obtain ⟨s', h1, h2⟩ := List.mem_map.1 this
  exact ⟨s', h1, h2⟩
theorem fsOf_len {L M : List St} (h : fsOf L = fsOf M) : L.length = M.length := by
  have := congrArg List.length h
  unfold fsOf at this
  simpa using this
theorem sameF {L M : List St} (h : fsOf L = fsOf M) : SameL false L M := ⟨fsOf_len h, fun i h1 h2 => ⟨by
  have e1 : (fsOf L)[i]? = some L[i].fs := by unfold fsOf; rw [List.getElem?_map, List.getElem?_eq_getElem h1]; rfl
  have e2 : (fsOf M)[i]? = some M[i].fs := by unfold fsOf; rw [List.getElem?_map, List.getElem?_eq_getElem h2]; rfl
  rw [h, e2] at e1
  injection e1 with e1
  exact e1.symm, fun h => by cases h⟩⟩
/-- Stanzas that Print may be asked for. -/
def Ok9 (L : List St) : Prop := L.length ≤ 1048576 ∧ ∀ s ∈ L, s.fs.length ≤ 1048576 ∧ ∀ f ∈ s.fs, f.n.size ≤ 1048576 ∧ lsum f.ls ≤ 4194304
theorem Ok9.same {L M : List St} (h : Ok9 L) (he : fsOf L = fsOf M) : Ok9 M := ⟨by rw [← fsOf_len he]; exact h.1, fun s hs => by
  obtain ⟨s', h1, h2⟩ := fsOf_mem he s hs
  rw [← h2]
  exact h.2 s' h1⟩
theorem Ok9.print {L : List St} (h : Ok9 L) (v : Value) (w : World) (hv : StzAt w v L) (hT : Lib.Utf8Tabs 0 1 w) :
    Calls Tryd.prog 22 #[v] w fun e w' => ∃ u, e = .returned (.tuple #[u, .int .i64 ((printE L : Nat) : Int)]) ∧ BytesAt w' u (printT L) ∧ Below w.heap.size w w' :=
  Print_any v L w hv (by have := h.1; omega) (fun s hs => ⟨by have := (h.2 s hs).1; omega, (h.2 s hs).2⟩) hT
/-- Stanzas of no more than light lets through. -/
def Ok10 (L : List St) : Prop := L.length ≤ 1000000 ∧ ∀ s ∈ L, s.fs.length ≤ 1000000 ∧ ∀ f ∈ s.fs, f.ls.length ≤ 1000000
theorem Ok10.same {L M : List St} (h : Ok10 L) (he : fsOf L = fsOf M) : Ok10 M := ⟨by rw [← fsOf_len he]; exact h.1, fun s hs => by
  obtain ⟨s', h1, h2⟩ := fsOf_mem he s hs
  rw [← h2]
  exact h.2 s' h1⟩
theorem Ok10.of_light {L : List St} (h : lightB L = true) : Ok10 L := by
  obtain ⟨h1, h2⟩ := lightB_len h
  exact ⟨by omega, fun s hs => ⟨by have := (h2 s hs).1; omega, fun f hf => by have := (h2 s hs).2 f hf; omega⟩⟩
theorem parse_bytes {w : World} {A : Option Addr} {n c : Nat} {T : ByteArray} (hb : Bytes w A n ((bl T).map UInt8.toNat)) (hn : n < 4294967281) {σ : PS} (hp : parseS T = .ok σ) (hT : Lib.Utf8Tabs 0 1 w) (hM : MaxLenAt w) :
    Calls Tryd.prog 11 #[.slice A n c] w fun e w' => ∃ v, e = .returned (.tuple #[v, .agg #[.int .i64 0, .int .i64 0]]) ∧ StzAt w' v σ.all ∧ Below w.heap.size w w' := by
  have h := Parse_any A n c _ w hb hn hT hM
  rw [toS_bl, hp] at h
  exact h
theorem printT_len {L : List St} (h : printE L = 0) : (printT L).size ≤ 65536 := by
  have := (printE_is h).2.2
  unfold printT
  rw [if_pos h]
  exact this
theorem printT_no {L : List St} (h : printE L ≠ 0) : printT L = ⟨#[]⟩ := by unfold printT; rw [if_neg h]
set_option maxRecDepth 100000 in
set_option maxHeartbeats 4000000 in
theorem stanzaBack_any (v : Value) (L : List St) (w : World) (h : StzAt w v L) (hO : Ok9 L) (hT : Lib.Utf8Tabs 0 1 w) (hM : MaxLenAt w) :
    Calls Tryd.prog 8 #[v] w fun e w' => e = .returned (.bool true) ∧ Below w.heap.size w w' := by
  have HLT := Lib.hid (light_any v L w h (by have := hO.1; omega) (fun s hs => ⟨by have := (hO.2 s hs).1; omega, fun f hf => by have h1 := ((hO.2 s hs).2 f hf).2; have h2 := lsum_len f.ls; omega⟩))
  have HP := Lib.hid (fun W (hb : Below w.heap.size w W) => hO.print v W (h.below hb) (tabs_later hT hb))
  have HAW := Lib.hid (fun W (hW : Below w.heap.size w W) => awake_any W (tabs_later hT hW) (hM.later hW))
  obtain ⟨T, hT0⟩ : ∃ T, T = printT L := ⟨_, rfl⟩
  cases hb : lightB L with
  | false =>
    rw [hb] at HLT
    clear hb h hT hM
    go_enter Tryd.func8, Tryd.ntmps8
    go_wp2_with (first | (go_at_call 15; refine (HLT.out).mono ?_; rintro e w1 ⟨rfl, hb1⟩; have HB1 := Lib.hid hb1; clear hb1) | (go_at_call 14; refine (HAW.out _ HB1.out).mono ?_; rintro e w2 ⟨rfl, hb2⟩))
    go_ret
    exact ⟨rfl, HB1.out.trans (hb2.mono HB1.out.size)⟩
  | true =>
    rw [hb] at HLT
    by_cases hr : printE L = 0
    case neg =>
      have hTn : T = ⟨#[]⟩ := hT0.trans (printT_no hr)
      obtain ⟨R, hR⟩ : ∃ R, R = printE L := ⟨_, rfl⟩
      simp only [← hR, ← hT0, hTn] at HP hr
      have q1 : ((R : Int) != 0) = true := by rw [bne_iff_ne]; omega
      clear hb h hT hM hR hT0 hTn hr
      go_enter Tryd.func8, Tryd.ntmps8
      go_upto_region 5 with (first | (go_at_call 15; refine (HLT.out).mono ?_; rintro e w1 ⟨rfl, hb1⟩; have HB1 := Lib.hid hb1; clear hb1) | (go_at_call 22; refine (HP.out _ HB1.out).mono ?_; rintro e w2 ⟨u2, rfl, ht2, hb2⟩; have HB2 := Lib.hid (HB1.out.trans (hb2.mono HB1.out.size)); have HT2 := Lib.hid ht2; clear hb2 ht2))
      obtain ⟨A2, c2, rfl, _, _⟩ := HT2.out
      have e0 : (⟨#[]⟩ : ByteArray).size = 0 := rfl
      rw [e0]
      go_wp2_with (go_at_call 14; refine (HAW.out _ HB2.out).mono ?_; rintro e w3 ⟨rfl, hb3⟩)
      go_ret
      exact ⟨rfl, HB2.out.trans (hb3.mono HB2.out.size)⟩
    obtain ⟨σ, hσ, hfs⟩ := print_back hr
    rw [← hT0] at hσ
    obtain ⟨M, hMM⟩ : ∃ M, M = σ.all := ⟨_, rfl⟩
    rw [← hMM] at hfs
    have hO2 : Ok9 M := hO.same hfs.symm
    have hTl : T.size ≤ 65536 := by rw [hT0]; exact printT_len hr
    have hps := print_same hfs
    have HPA := Lib.hid (fun (W : World) (A : Option Addr) (n c : Nat) (hb : Bytes W A n ((bl T).map UInt8.toNat)) (hn : n = T.size) (hW : Below w.heap.size w W) => parse_bytes (c := c) hb (by omega) hσ (tabs_later hT hW) (hM.later hW))
    rw [← hMM] at HPA
    have HP2 := Lib.hid (fun W u (hv : StzAt W u M) (hW : Below w.heap.size w W) => hO2.print u W hv (tabs_later hT hW))
    rw [hps.1, hps.2, hr, ← hT0] at HP2
    simp only [hr, ← hT0] at HP
    have HSM := Lib.hid (fun (W : World) (u : Value) (x1 : Below w.heap.size w W) (x2 : StzAt W u M) => SameStanzas_any false v u L M W (h.below x1) x2 (sameF hfs.symm) (Ok10.of_light hb).1 (Ok10.of_light hb).2)
    have q2 : (T.toList == T.toList) = true := by simp
    clear hb h hT hM hT0 hr hσ hfs hMM hO2 hO hTl hps
    go_enter Tryd.func8, Tryd.ntmps8
    go_upto_region 6 with (first | (go_at_call 15; refine (HLT.out).mono ?_; rintro e w1 ⟨rfl, hb1⟩; have HB1 := Lib.hid hb1; clear hb1) | (go_at_call 22; refine (HP.out _ HB1.out).mono ?_; rintro e w2 ⟨u2, rfl, ht2, hb2⟩; have HB2 := Lib.hid (HB1.out.trans (hb2.mono HB1.out.size)); have HT2 := Lib.hid ht2; clear hb2 ht2))
    obtain ⟨A2, n2, c2, rfl, e2, _, hby, hcv⟩ := HT2.out.strs
    have HBY := Lib.hid hby
    have HCV := Lib.hid hcv
    have HE2 := Lib.hid e2
    clear e2 hby hcv
    go_upto_region 7 with (go_at_call 11; refine (HPA.out _ _ _ _ HBY.out HE2.out HB2.out).mono ?_; rintro e w3 ⟨u3, rfl, ht3, hb3⟩; have HT3 := Lib.hid ht3; have HB23 := Lib.hid hb3; clear hb3 ht3)
    obtain ⟨W3, hW3⟩ : ∃ W3, W3 = w3.alloc (Obj.cells #[Value.int IntKind.i64 0, Value.int IntKind.i64 0] 26) := ⟨_, rfl⟩
    have HA3 : Hid (Below w3.heap.size w3 W3) := Lib.hid (by rw [hW3]; exact (Below.refl _ _).alloc (Nat.le_refl _) _)
    have HK3 : Hid (Blk W3 w3.heap.size 26 #[Value.int IntKind.i64 0, Value.int IntKind.i64 0]) := Lib.hid (by rw [hW3]; exact Blk.new _ _ _)
    have HS3 := Lib.hid (HT3.out.below HA3.out)
    have HB3 := Lib.hid (HB23.out.trans (HA3.out.mono HB23.out.size))
    have HBW3 := Lib.hid (HB2.out.trans (HB3.out.mono HB2.out.size))
    obtain ⟨b3, hb3⟩ : ∃ b3, b3 = w3.heap.size := ⟨_, rfl⟩
    rw [← hb3] at HK3
    rw [← hW3, ← hb3]
    clear hW3 hb3 HA3 HT3 HB23
    go_upto_region 8 with (go_at_call 22; refine (HP2.out _ _ HS3.out HBW3.out).mono ?_; rintro e w4 ⟨u4, rfl, ht4, hb4⟩; have HB4 := Lib.hid (HBW3.out.trans (hb4.mono HBW3.out.size)); have HC4 := Lib.hid (HB3.out.trans (hb4.mono HB3.out.size)); have HT4 := Lib.hid ht4; have HK4 := Lib.hid (HK3.out.below hb4 HK3.out.lt); have HS4 := Lib.hid (HS3.out.below hb4); clear hb4 ht4)
    obtain ⟨A4, n4, c4, rfl, e4, _, _, hcv4⟩ := HT4.out.strs
    have HCV4 := Lib.hid hcv4
    have k0 : w4.cell? ⟨b3, 0, none⟩ = some (.int .i64 0) := HK4.out.cell 0
    clear e4 hcv4
    go_wp2_with (first | (go_at_call 13; refine (HSM.out _ _ HB4.out HS4.out).mono ?_; rintro e w5 ⟨rfl, hb5⟩; have HB5 := Lib.hid (HB4.out.trans (hb5.mono HB4.out.size)); have hk1 := HCV.out w5 (HC4.out.trans (hb5.mono HC4.out.size)); have hk2 := HCV4.out w5 hb5; clear hb5) | (go_at_call 14; refine (HAW.out _ HB5.out).mono ?_; rintro e w6 ⟨rfl, hb6⟩))
    go_ret
    exact ⟨rfl, HB5.out.trans (hb6.mono HB5.out.size)⟩
section
open Go.ChangeShapes Go.WideShapes Go.ChangeAt Go.ChangeMaps
theorem ok9_of {B : Nat} {L : List St} (h : StOk B L) (hB : B ≤ 1048576) : Ok9 L := ⟨by have := h.1; omega, fun s hs => ⟨by have := (h.2 s hs).1; omega, fun f hf => by have := (h.2 s hs).2 f hf; omega⟩⟩
set_option maxRecDepth 100000 in
theorem stanzaBack_walk {H : Type} {enc : TypeId × Value → H} (W : World) {base : Nat} (v0 : Value) {d0 : DataW H} {p0 : List MemPlace}
    (h0 : DataW.Trod enc Tryd.prog W 0 (fun _ => true) true 23 v0 d0 p0) (o0 : Value.okWide Tryd.prog W .any base 23 v0)
    (hT : Lib.Utf8Tabs 0 1 W) (hS : W.ShapedOpen Tryd.prog) (hk : Rows.uptoBulkAll [d0] ≤ 1048576) :
    Calls Tryd.prog 8 #[v0] W fun e w' => e = .returned (.bool true) ∧ Below W.heap.size W w' := by
  obtain ⟨L, hL, hok⟩ := open_stz h0 o0
  simp only [Rows.uptoBulkAll] at hk
  exact stanzaBack_any v0 L W hL (ok9_of hok (by omega)) hT (MaxLenAt.of hS)
end
end Go.Proofs.YtjkaigfpjebfbaaDoor
