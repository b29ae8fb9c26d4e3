/- StanzaJoins: the walk. -/
import Derived.Test.YtjkaigfpjebfbaaDoorStanzaBackWalk
namespace Go.Proofs.YtjkaigfpjebfbaaDoor
open Go.RowKit Go.Shelf Go.Lib
set_option linter.unusedVariables false

section
variable {w w' : World} {G : Nat → Prop}
theorem SV.app : ∀ {xs ys : List Value} {L M : List St}, SV w G xs L → SV w G ys M → SV w G (xs ++ ys) (L ++ M)
  | xs, ys, [], M, h, h2 => by
    have h : xs = [] := h
    subst h
    exact h2
  | xs, ys, s :: r, M, h, h2 => by
    obtain ⟨A, c, fx, zs, rfl, h3, h4, h5, h6⟩ := h
    exact ⟨A, c, fx, zs ++ ys, rfl, h3, h4, h5, SV.app h6 h2⟩
theorem SV.one : ∀ {xs : List Value} {L : List St}, SV w G xs L → ∀ u ∈ xs, u.oneCell' = true
  | xs, [], h, u, hu => by
    have h : xs = [] := h
    subst h
    cases hu
  | xs, s :: r, h, u, hu => by
    obtain ⟨A, c, fx, zs, rfl, h3, h4, h5, h6⟩ := h
    rcases List.mem_cons.1 hu with rfl | hu
    · rfl
    · rcases List.mem_cons.1 hu with rfl | hu
      · rfl
      · exact SV.one h6 u hu
theorem RowG.reads {size n : Nat} {A : Option Addr} {xs : List Value} (h : RowG w G size A n xs) : Reads w w.heap.size size A n xs :=
  ⟨h.1, fun h0 => by
    obtain ⟨g, o, e, h1, h2, h3⟩ := h.2 h0
    refine ⟨_, e, h1, fun j u hj => ?_⟩
    rw [addN]
    exact h3 j u hj⟩
end
theorem wpList_append_if {P : Program} (w : World) {ops : Array Oper} {rest : List Oper} {o : Oper} {a : Act} {Q : Exit → Act → World → Prop} (hgd : Region.wanted o (yielded ops a.tmps) = true) (s x : Operand) (t : TypeId)
    (ho : o.op = .call { callee := .builtin .append, args := #[s, x], argTypes := #[t, t] })
    (base : Nat) (e : TypeId) (i : TypeInfo) (z : Value) (size bytes : Nat) (ht : P.underlying t = some (.slice e)) (hi : P.info? e = some i) (hz : i.zero = some z)
    (hsize : i.size = size) (hby : i.bytes = bytes) (hzs : z.cells.size = size) (hsz : 0 < size)
    (v : Value) (n : Nat) (xs : List Value) (hs : a.eval s = v) (hown : w.ownsRow base e size v n xs)
    (B : Nat) (A : Option Addr) (m c : Nat) (news : List Value) (hx : a.eval x = .slice A m c) (hr : Reads w B size A m news) (h1 : ∀ u ∈ news, u.oneCell' = true)
    (h63 : n + m ≤ maxLen) (hbytes : (n + m) * bytes ≤ 140737488355328) (hbase : base ≤ w.heap.size)
    (h : ∀ v' w', w'.ownsRow base e size v' (n + m) (xs ++ news) → w.grownBy w' v.ownBlock → (v'.ownBlock = v.ownBlock ∨ v'.ownBlock = some w.heap.size) → wpList P ops Q rest (a.put o.dst v') w') : wpList P ops Q (o :: rest) a w :=
  wpList_step fun K hK => by
    rw [if_pos hgd]
    exact wp_append_any w s x t ho base e i z size bytes ht hi hz hsize hby hzs hsz v n xs hs hown B A m c news hx hr h1 h63 hbytes hbase fun v' w' h2 h3 h4 => hK _ _ (h v' w' h2 h3 h4)
theorem encN (T : ByteArray) : ((bl T).map UInt8.toNat).map (fun x => Value.int .u8 ((x : Nat) : Int)) = encU (bl T) := by
  unfold encU
  rw [List.map_map]
  rfl
theorem own_bytesU {w : World} {k : Nat} {v : Value} {n : Nat} {l : List UInt8} (h : w.ownsRow k 5 1 v n (encU l)) : ∃ A c, v = .slice A n c ∧ n = l.length ∧ Bytes w A n ((bl (ofL l)).map UInt8.toNat) := by
  have hn : n = l.length := by have := h.1; rw [encU_len] at this; omega
  have h2 := h
  rw [← bl_ofL l, ← encN] at h2
  obtain ⟨A, c, rfl⟩ := own_shape h
  refine ⟨A, c, rfl, hn, ?_⟩
  refine ⟨by rw [List.length_map, bl_ofL, hn], fun x hx => ?_, fun h0 => ?_⟩
  · obtain ⟨y, _, rfl⟩ := List.mem_map.1 hx
    exact y.toNat_lt
  · obtain ⟨g, cap, hv, _, hlt⟩ := h.form h0
    injection hv with hv _ _
    subst hv
    refine ⟨g, 0, rfl, hlt, fun k hk => ?_⟩
    rw [Nat.zero_add, h.cellAt k (by omega)]
    unfold encU
    rw [List.getElem?_map, List.getD_eq_getElem?_getD, List.getElem?_map, bl_ofL, List.getElem?_eq_getElem (by omega)]
    rfl
theorem encU_one (l : List UInt8) : ∀ u ∈ encU l, u.oneCell' = true := fun u hu => by
  obtain ⟨y, _, rfl⟩ := List.mem_map.1 hu
  rfl
theorem own_joined {w : World} {k n1 n2 : Nat} {A : Option Addr} {c : Nat} {T1 T2 : ByteArray} (h : w.ownsRow k 5 1 (.slice A (n1 + 1 + n2) c) (n1 + 1 + n2) (encU (bl T1) ++ [.int .u8 10] ++ encU (bl T2))) : Bytes w A (n1 + 1 + n2) ((bl (T1 ++ (⟨#[10]⟩ ++ T2))).map UInt8.toNat) := by
  have e : encU (bl T1) ++ [.int .u8 10] ++ encU (bl T2) = encU (bl (T1 ++ (⟨#[10]⟩ ++ T2))) := by
    rw [bl_app, bl_app, encU_app, encU_app, List.append_assoc]
    rfl
  rw [e] at h
  obtain ⟨A', c', e', _, hb⟩ := own_bytesU h
  injection e' with e1 _ _
  subst e1
  exact hb
def ArgL (w : World) (u : Value) (l : Bool) : Prop := ∃ X, StzAt w u X ∧ Ok9 X ∧ l = lightB X
def ArgP (w : World) (u : Value) (R : Nat) (T : ByteArray) : Prop := ∃ X, StzAt w u X ∧ Ok9 X ∧ R = printE X ∧ T = printT X
theorem printT_small (L : List St) : (printT L).size ≤ 65536 := by
  by_cases h : printE L = 0
  · exact printT_len h
  · rw [printT_no h]; exact Nat.zero_le _
set_option maxRecDepth 100000 in
set_option maxHeartbeats 4000000 in
theorem stanzaJoins_any (v1 v2 : Value) (a b : List St) (w : World) (h1 : StzAt w v1 a) (h2 : StzAt w v2 b) (ha : Ok9 a) (hb : Ok9 b) (hT : Lib.Utf8Tabs 0 1 w) (hM : MaxLenAt w) :
    Calls Tryd.prog 10 #[v1, v2] w fun e w' => e = .returned (.bool true) ∧ Below w.heap.size w w' := by
  have HLT : Hid (∀ u l W, Hid (ArgL w u l) → Hid (Below w.heap.size w W) → Calls Tryd.prog 15 #[u] W fun e w' => e = .returned (.bool l) ∧ Hid (Below w.heap.size w w')) := Lib.hid (fun u l W hu hW => by
    obtain ⟨X, x1, x2, rfl⟩ := hu.out
    exact (light_any u X W (x1.below hW.out) (by have := x2.1; omega) (fun s hs => ⟨by have := (x2.2 s hs).1; omega, fun f hf => by have h1 := ((x2.2 s hs).2 f hf).2; have h2 := lsum_len f.ls; omega⟩)).mono fun e w' h => ⟨h.1, Lib.hid (hW.out.trans (h.2.mono hW.out.size))⟩)
  have HPR : Hid (∀ u R T W, Hid (ArgP w u R T) → Hid (Below w.heap.size w W) → Calls Tryd.prog 22 #[u] W fun e w' => ∃ A n c, e = .returned (.tuple #[.slice A n c, .int .i64 (R : Int)]) ∧ Hid (n = T.size ∧ Bytes w' A n ((bl T).map UInt8.toNat)) ∧ n ≤ 65536 ∧ Hid (Below w.heap.size w w') ∧ Hid (Below W.heap.size W w')) := Lib.hid (fun u R T W hu hW => by
    obtain ⟨X, x1, x2, rfl, rfl⟩ := hu.out
    refine (x2.print u W (x1.below hW.out) (tabs_later hT hW.out)).mono ?_
    rintro e w' ⟨u', rfl, hby, hbl⟩
    obtain ⟨A, n, c, rfl, e1, _, e2, _⟩ := hby.strs
    exact ⟨A, n, c, rfl, Lib.hid ⟨e1, e2⟩, by rw [e1]; exact printT_small X, Lib.hid (hW.out.trans (hbl.mono hW.out.size)), Lib.hid hbl⟩)
  have HAW : Hid (∀ W, Hid (Below w.heap.size w W) → Calls Tryd.prog 14 #[] W fun e w' => e = .returned (.bool true) ∧ Below w.heap.size w w') := Lib.hid (fun W hW => (awake_any W (tabs_later hT hW.out) (hM.later hW.out)).mono fun e w' h => ⟨h.1, hW.out.trans (h.2.mono hW.out.size)⟩)
  have HB0 : Hid (Below w.heap.size w w) := Lib.hid (Below.refl _ _)
  obtain ⟨la, hla⟩ : ∃ l, l = lightB a := ⟨_, rfl⟩
  obtain ⟨lb, hlb⟩ : ∃ l, l = lightB b := ⟨_, rfl⟩
  obtain ⟨R1, hR1⟩ : ∃ R, R = printE a := ⟨_, rfl⟩
  obtain ⟨R2, hR2⟩ : ∃ R, R = printE b := ⟨_, rfl⟩
  obtain ⟨T1, hT1⟩ : ∃ R, R = printT a := ⟨_, rfl⟩
  obtain ⟨T2, hT2⟩ : ∃ R, R = printT b := ⟨_, rfl⟩
  have HA1 : Hid (ArgL w v1 la) := Lib.hid ⟨a, h1, ha, hla⟩
  have HA2 : Hid (ArgL w v2 lb) := Lib.hid ⟨b, h2, hb, hlb⟩
  have HP1 : Hid (ArgP w v1 R1 T1) := Lib.hid ⟨a, h1, ha, hR1, hT1⟩
  have HP2 : Hid (ArgP w v2 R2 T2) := Lib.hid ⟨b, h2, hb, hR2, hT2⟩
  cases la with
  | false =>
    clear h1 h2 ha hb hT hM hla hlb hR1 hR2 hT1 hT2
    go_enter Tryd.func10, Tryd.ntmps10
    go_wp2_with (first | (go_at_call 15; refine (HLT.out _ _ _ (by assumption) (by assumption)).mono ?_; rintro e w1 ⟨rfl, hb1⟩) | (go_at_call 14; refine (HAW.out _ (by assumption)).mono ?_; rintro e w2 ⟨rfl, hb2⟩))
    go_ret
    exact ⟨rfl, hb2⟩
  | true =>
  cases lb with
  | false =>
    clear h1 h2 ha hb hT hM hla hlb hR1 hR2 hT1 hT2
    go_enter Tryd.func10, Tryd.ntmps10
    go_wp2_with (first | (go_at_call 15; refine (HLT.out _ _ _ (by assumption) (by assumption)).mono ?_; rintro e w1 ⟨rfl, hb1⟩) | (go_at_call 14; refine (HAW.out _ (by assumption)).mono ?_; rintro e w2 ⟨rfl, hb2⟩))
    go_ret
    exact ⟨rfl, hb2⟩
  | true =>
  have hpa := lightB_len hla.symm
  have hpb := lightB_len hlb.symm
  have HS1 := Lib.hid h1
  have HS2 := Lib.hid h2
  obtain ⟨G1, A1, c1, xs, rfl, hc1, hr1, hsv1⟩ := h1
  obtain ⟨G2, A2, c2, ys, rfl, hc2, hr2, hsv2⟩ := h2
  obtain ⟨p, hp⟩ : ∃ p, p = a.length := ⟨_, rfl⟩
  obtain ⟨q, hq⟩ : ∃ q, q = b.length := ⟨_, rfl⟩
  have hp30 : p ≤ 30 := by rw [hp]; exact hpa.1
  have hq30 : q ≤ 30 := by rw [hq]; exact hpb.1
  rw [← hp] at hc1 hr1 HA1 HP1 HS1 ⊢
  rw [← hq] at hc2 hr2 HA2 HP2 HS2 ⊢
  have HJ : Hid (R1 = 0 → R2 = 0 → p + q ≤ 200 → T1.size + T2.size < 65536 → ∃ σ, parseS (T1 ++ (⟨#[10]⟩ ++ T2)) = .ok σ ∧ fsOf σ.all = fsOf (a ++ b)) := Lib.hid (fun e1 e2 e3 e4 => by
    obtain ⟨σ, s1, s2⟩ := joins_back (hR1.symm.trans e1) (hR2.symm.trans e2) (by omega) (by rw [← hT1, ← hT2]; exact e4)
    exact ⟨σ, by rw [hT1, hT2]; exact s1, by rw [s2]; unfold fsOf; rw [List.map_append]⟩)
  have HTAB := Lib.hid hT
  have HMAX := Lib.hid hM
  have HPQ := Lib.hid (And.intro hp hq)
  have HL1 := Lib.hid hpa
  have HL2 := Lib.hid hpb
  have HV1 := Lib.hid hsv1
  have HV2 := Lib.hid hsv2
  have HR1 := Lib.hid hr1
  have HXO : Hid (∀ u ∈ xs, u.oneCell' = true) := Lib.hid hsv1.one
  have HYO : Hid (∀ u ∈ ys, u.oneCell' = true) := Lib.hid hsv2.one
  have HR2 := Lib.hid hr2
  clear ha hb hT hM hla hlb hR1 hR2 hT1 hT2 hpa hpb hp hq hr1 hr2 hsv1 hsv2
  go_enter Tryd.func10, Tryd.ntmps10
  go_upto_region 3 with (go_at_call 15; refine (HLT.out _ _ _ (by assumption) (by assumption)).mono ?_; rintro e w1 ⟨rfl, hb1⟩)
  go_upto_region 4 with (go_at_call 22; refine (HPR.out _ _ _ _ (by assumption) (by assumption)).mono ?_; rintro e w2 ⟨xA, n1, xc, rfl, HX, hn1, hb2, _⟩)
  go_upto_region 5 with (go_at_call 22; refine (HPR.out _ _ _ _ (by assumption) (by assumption)).mono ?_; rintro e w3 ⟨yA, n2, yc, rfl, HY, hn2, hb3, hst3⟩)
  have HX3 : Hid (n1 = T1.size ∧ Bytes w3 xA n1 ((bl T1).map UInt8.toNat)) := Lib.hid ⟨HX.out.1, HX.out.2.below hst3.out⟩
  clear HX hst3 HLT HPR HA1 HA2 HP1 HP2 hb2
  by_cases r1 : R1 = 0
  case neg =>
    have r1' : ((R1 : Int) != 0) = true := by rw [bne_iff_ne]; omega
    clear r1
    go_wp2_with (go_at_call 14; refine (HAW.out _ (by assumption)).mono ?_; rintro e w4 ⟨rfl, hb4⟩)
    go_ret
    exact ⟨rfl, hb4⟩
  have r1' : ((R1 : Int) != 0) = false := by rw [r1]; rfl
  by_cases r2 : R2 = 0
  case neg =>
    have r2' : ((R2 : Int) != 0) = true := by rw [bne_iff_ne]; omega
    clear r1 r2
    go_wp2_with (go_at_call 14; refine (HAW.out _ (by assumption)).mono ?_; rintro e w4 ⟨rfl, hb4⟩)
    go_ret
    exact ⟨rfl, hb4⟩
  have r2' : ((R2 : Int) != 0) = false := by rw [r2]; rfl
  by_cases r4 : 65536 ≤ n1 + n2
  · have r4' : (65536 : Int) ≤ (n1 : Int) + (n2 : Int) := by omega
    have r3' : ¬ (200 : Int) < (p : Int) + (q : Int) := by omega
    clear r1 r2 r4
    go_wp2_with (go_at_call 14; refine (HAW.out _ (by assumption)).mono ?_; rintro e w4 ⟨rfl, hb4⟩)
    go_ret
    exact ⟨rfl, hb4⟩
  have r4' : ¬ (65536 : Int) ≤ (n1 : Int) + (n2 : Int) := by omega
  have r3' : ¬ (200 : Int) < (p : Int) + (q : Int) := by omega
  obtain ⟨σ, s1, s2⟩ := HJ.out r1 r2 (by omega) (by rw [← HX3.out.1, ← HY.out.1]; omega)
  obtain ⟨M, hMM⟩ : ∃ M, M = σ.all := ⟨_, rfl⟩
  rw [← hMM] at s2
  have HSG := Lib.hid s2
  have HPA : Hid (∀ (W : World) (A : Option Addr) (n c : Nat), Hid (Bytes W A n ((bl (T1 ++ (⟨#[10]⟩ ++ T2))).map UInt8.toNat)) → n ≤ 65537 → Hid (Below w.heap.size w W) → Calls Tryd.prog 11 #[.slice A n c] W fun e w' => ∃ v, e = .returned (.tuple #[v, .agg #[.int .i64 0, .int .i64 0]]) ∧ Hid (StzAt w' v M) ∧ Hid (Below W.heap.size W w')) := Lib.hid (fun W A n c hb hn hW => by
    refine (parse_bytes (c := c) hb.out (by omega) s1 (tabs_later HTAB.out hW.out) (HMAX.out.later hW.out)).mono ?_
    rintro e w' ⟨v, rfl, k1, k2⟩
    exact ⟨v, rfl, Lib.hid (by rw [hMM]; exact k1), Lib.hid k2⟩)
  clear s1 s2 hMM HJ r1 r2 r4
  obtain ⟨i0, hi0, hz0, hz1, hz2⟩ := info_parts u8_row
  have HXR : Hid (Reads w3 w3.heap.size 1 xA n1 (encU (bl T1))) := Lib.hid (by rw [← encN]; exact HX3.out.2.reads)
  have HYR : Hid (Reads w3 w3.heap.size 1 yA n2 (encU (bl T2))) := Lib.hid (by rw [← encN]; exact HY.out.2.reads)
  have HE0 : Hid ((w3.alloc (.cells #[] 5)).ownsRow w3.heap.size 5 1 (.slice (some ⟨w3.heap.size, 0, none⟩) 0 0) 0 []) := Lib.hid (own_empty w3 _ 1 _ rfl)
  have HN12 : Hid (n1 = T1.size ∧ n2 = T2.size) := Lib.hid ⟨HX3.out.1, HY.out.1⟩
  clear HX3 HY
  go_upto_region 8 with (first | (at_builtin; refine wpList_append_any _ rfl (.tmp 54) (.tmp 55) 22 rfl w3.heap.size 5 i0 (.int .u8 0) 1 1 Tryd.underlying22 hi0 hz0 hz1 hz2 rfl (by decide) (.slice (some ⟨w3.heap.size, 0, none⟩) 0 0) 0 [] rfl HE0.out w3.heap.size xA n1 xc (encU (bl T1)) rfl (HXR.out.alloc (Nat.le_refl _) _) (encU_one _) (by unfold maxLen; omega) (by omega) (by simp) ?_; intro v5 w5 hown5 hg5 hat5; have HB5 : Hid (Below w3.heap.size w3 w5) := Lib.hid (((Below.refl _ w3).alloc (Nat.le_refl _) _).grown hg5 (by simp) (fun k hk => (own_is HE0.out hk).1)); rw [Nat.zero_add, List.nil_append] at hown5; obtain ⟨vA, vc, rfl⟩ := own_shape hown5; have HO5 := Lib.hid hown5; clear hown5 hg5 hat5) | (at_builtin; refine wpList_append_any _ rfl (.tmp 56) (.tmp 57) 22 rfl w3.heap.size 5 i0 (.int .u8 0) 1 1 Tryd.underlying22 hi0 hz0 hz1 hz2 rfl (by decide) (.slice vA n1 vc) n1 (encU (bl T1)) rfl (HO5.out.alloc _) (w5.heap.size + 1) (some ⟨w5.heap.size, 0, none⟩) 1 1 [.int .u8 10] rfl (reads_one (Blk.new w5 _ _) (by simp)) (fun u hu => by simp at hu; subst hu; rfl) (by unfold maxLen; omega) (by omega) (Nat.le_trans HB5.out.size (by simp)) ?_; intro v6 w6 hown6 hg6 hat6; have HB6 : Hid (Below w3.heap.size w3 w6) := Lib.hid ((HB5.out.alloc HB5.out.size _).grown hg6 (Nat.le_trans HB5.out.size (by simp)) (fun k hk => (own_is HO5.out hk).1)); obtain ⟨uA, uc, rfl⟩ := own_shape hown6; have HO6 := Lib.hid hown6; clear hown6 hg6 hat6) | (at_builtin; refine wpList_append_any _ rfl (.tmp 58) (.tmp 59) 22 rfl w3.heap.size 5 i0 (.int .u8 0) 1 1 Tryd.underlying22 hi0 hz0 hz1 hz2 rfl (by decide) (.slice uA (n1 + 1) uc) (n1 + 1) (encU (bl T1) ++ [.int .u8 10]) rfl HO6.out w3.heap.size yA n2 yc (encU (bl T2)) rfl (HYR.out.below HB6.out) (encU_one _) (by unfold maxLen; omega) (by omega) HB6.out.size ?_; intro v7 w7 hown7 hg7 hat7; have HB7 : Hid (Below w.heap.size w w7) := Lib.hid (hb3.out.trans ((HB6.out.grown hg7 HB6.out.size (fun k hk => (own_is HO6.out hk).1)).mono hb3.out.size)); obtain ⟨tA, tc, rfl⟩ := own_shape hown7; have HY7 : Hid (Bytes w7 tA (n1 + 1 + n2) ((bl (T1 ++ (⟨#[10]⟩ ++ T2))).map UInt8.toNat)) := Lib.hid (own_joined hown7); clear hown7 hg7 hat7) | (go_at_call 11; refine (HPA.out _ _ _ _ HY7 (by omega) HB7).mono ?_; rintro e w8 ⟨v8, rfl, ht8, hb8⟩))
  obtain ⟨W8, hW8⟩ : ∃ W8, W8 = w8.alloc (Obj.cells #[Value.int IntKind.i64 0, Value.int IntKind.i64 0] 26) := ⟨_, rfl⟩
  have HA8 : Hid (Below w8.heap.size w8 W8) := Lib.hid (by rw [hW8]; exact (Below.refl _ _).alloc (Nat.le_refl _) _)
  have HK8 : Hid (Blk W8 w8.heap.size 26 #[Value.int IntKind.i64 0, Value.int IntKind.i64 0]) := Lib.hid (by rw [hW8]; exact Blk.new _ _ _)
  have HS8 := Lib.hid (ht8.out.below HA8.out)
  have HBW8 : Hid (Below w.heap.size w W8) := Lib.hid (HB7.out.trans ((hb8.out.trans (HA8.out.mono hb8.out.size)).mono HB7.out.size))
  obtain ⟨b8, hb80⟩ : ∃ b8, b8 = w8.heap.size := ⟨_, rfl⟩
  rw [← hb80] at HK8
  rw [← hW8, ← hb80]
  clear hW8 hb80 HA8 ht8 hb8 HY7 HB7 HXR HYR HE0 hb3
  have k0 : W8.cell? ⟨b8, 0, none⟩ = some (.int .i64 0) := HK8.out.cell 0
  obtain ⟨j0, hj0, hy0, hy1, hy2⟩ := info_parts st_row
  have HUP : Hid (Upd (fun _ => False) w W8) := Lib.hid (Upd.of_below HBW8.out (T := fun _ => False) (fun k h1 h2 => by omega))
  have HXR : Hid (Reads W8 W8.heap.size 2 A1 p xs) := Lib.hid (HR1.out.upd HUP.out (fun _ _ h => h)).reads
  have HYR : Hid (Reads W8 W8.heap.size 2 A2 q ys) := Lib.hid (HR2.out.upd HUP.out (fun _ _ h => h)).reads
  have HN0 : Hid (W8.ownsRow W8.heap.size 34 2 (.slice none 0 0) 0 []) := Lib.hid (World.ownsRow_nil _ _ _ _)
  have HSM : Hid (∀ (W : World) (A : Option Addr) (c : Nat), W.ownsRow W8.heap.size 34 2 (.slice A (p + q) c) (p + q) (xs ++ ys) → Below W8.heap.size W8 W → Calls Tryd.prog 13 #[v8, .slice A (p + q) c, .bool false] W fun e w' => e = .returned (.bool true) ∧ Hid (Below w.heap.size w w')) := Lib.hid (fun W A c ho hb => by
    have hbw : Below w.heap.size w W := HBW8.out.trans (hb.mono HBW8.out.size)
    have hu : Upd (fun _ => False) w W := Upd.of_below hbw (T := fun _ => False) (fun k h1 h2 => by omega)
    have hlen : p + q = (a ++ b).length := by rw [List.length_append, HPQ.out.1, HPQ.out.2]
    have hst : StzAt W (.slice A (p + q) c) (a ++ b) := by
      refine ⟨fun _ => True, A, c, xs ++ ys, by rw [hlen], by rw [← hlen]; exact own_cap ho, ?_, ?_⟩
      · rw [← hlen]
        exact RowG.of_own ho (fun _ _ => trivial)
      · exact ((HV1.out.upd hu (fun _ _ h => h)).mono (fun _ _ => trivial)).app ((HV2.out.upd hu (fun _ _ h => h)).mono (fun _ _ => trivial))
    have hok : Ok10 (a ++ b) := by
      have h1 := HL1.out
      have h2 := HL2.out
      refine ⟨by rw [List.length_append]; omega, fun s hs => ?_⟩
      rcases List.mem_append.1 hs with hs | hs
      · have := h1.2 s hs
        exact ⟨by omega, fun f hf => by have := this.2 f hf; omega⟩
      · have := h2.2 s hs
        exact ⟨by omega, fun f hf => by have := this.2 f hf; omega⟩
    have hok2 := hok.same HSG.out.symm
    exact (SameStanzas_any false v8 _ M (a ++ b) W (HS8.out.below hb) hst (sameF HSG.out) hok2.1 hok2.2).mono fun e w' h => ⟨h.1, Lib.hid (hbw.trans (h.2.mono hbw.size))⟩)
  clear HS8 HSG HPQ HL1 HL2 HV1 HV2 HR1 HR2 HUP HK8 HS1 HS2
  go_wp2_with (first | (at_builtin; refine wpList_append_if _ rfl (.const (.slice none 0 0)) (.tmp 69) 23 rfl W8.heap.size 34 j0 _ 2 32 Tryd.underlying23 hj0 hy0 hy1 hy2 rfl (by decide) (.slice none 0 0) 0 [] rfl HN0.out W8.heap.size A1 p c1 xs rfl HXR.out HXO.out (by unfold maxLen; omega) (by omega) (Nat.le_refl _) ?_; intro v5 w9 hown5 hg5 hat5; have HB9 : Hid (Below W8.heap.size W8 w9) := Lib.hid ((Below.refl _ W8).grown hg5 (Nat.le_refl _) (fun k hk => (own_is HN0.out hk).1)); rw [Nat.zero_add, List.nil_append] at hown5; obtain ⟨sA, sc, rfl⟩ := own_shape hown5; have HO9 := Lib.hid hown5; clear hown5 hg5 hat5) | (at_builtin; refine wpList_append_if _ rfl (.tmp 70) (.tmp 71) 23 rfl W8.heap.size 34 j0 _ 2 32 Tryd.underlying23 hj0 hy0 hy1 hy2 rfl (by decide) (.slice sA p sc) p xs rfl HO9.out W8.heap.size A2 q c2 ys rfl (HYR.out.below HB9.out) HYO.out (by unfold maxLen; omega) (by omega) HB9.out.size ?_; intro v6 w10 hown6 hg6 hat6; have HB10 : Hid (Below W8.heap.size W8 w10) := Lib.hid (HB9.out.grown hg6 HB9.out.size (fun k hk => (own_is HO9.out hk).1)); obtain ⟨rA, rc, rfl⟩ := own_shape hown6; have HO10 := Lib.hid hown6; clear hown6 hg6 hat6) | (go_at_call 13; refine (HSM.out _ _ _ HO10.out HB10.out).mono ?_; rintro e w11 ⟨rfl, hb11⟩) | (go_at_call 14; refine (HAW.out _ hb11).mono ?_; rintro e w12 ⟨rfl, hb12⟩))
  go_ret
  exact ⟨rfl, hb12⟩
section
open Go.ChangeShapes Go.WideShapes Go.ChangeAt Go.ChangeMaps
set_option maxRecDepth 100000 in
theorem stanzaJoins_walk {H : Type} {enc : TypeId × Value → H} (W : World) {base : Nat} (v0 v1 : Value) {d0 d1 : DataW H} {p0 p1 : List MemPlace}
    (h0 : DataW.Trod enc Tryd.prog W 0 (fun _ => true) true 23 v0 d0 p0) (o0 : Value.okWide Tryd.prog W .any base 23 v0)
    (h1 : DataW.Trod enc Tryd.prog W 0 (fun _ => true) true 23 v1 d1 p1) (o1 : Value.okWide Tryd.prog W .any base 23 v1)
    (hT : Lib.Utf8Tabs 0 1 W) (hS : W.ShapedOpen Tryd.prog) (hk : Rows.uptoBulkAll [d0, d1] ≤ 1048576) :
    Calls Tryd.prog 10 #[v0, v1] W fun e w' => e = .returned (.bool true) ∧ Below W.heap.size W w' := by
  obtain ⟨a, ha, hoa⟩ := open_stz h0 o0
  obtain ⟨b, hb, hob⟩ := open_stz h1 o1
  simp only [Rows.uptoBulkAll] at hk
  exact stanzaJoins_any v0 v1 a b W ha hb (ok9_of hoa (by omega)) (ok9_of hob (by omega)) hT (MaxLenAt.of hS)
end
end Go.Proofs.YtjkaigfpjebfbaaDoor
