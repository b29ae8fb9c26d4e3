/- stanza's reader: further. -/
import Derived.Test.YtjkaigfpjebfbaaDoorSt2
import Derived.Test.YtjkaigfpjebfbaaDoorSf3
import Derived.Deep.Cut
import Derived.Deep.DeepCutAuto
import Derived.Deep.AppendLies
namespace Go.Proofs.YtjkaigfpjebfbaaDoor
open Go.RowKit
set_option linter.unusedVariables false

theorem str_row : (Tryd.prog.info? 9).map (fun i => (i.zero, i.size, i.bytes)) = some (some (.string ⟨#[]⟩), 1, 16) := by kernel_rfl
theorem fd_row : (Tryd.prog.info? 40).map (fun i => (i.zero, i.size, i.bytes)) = some (some (.agg #[.string ⟨#[]⟩, .slice none 0 0]), 2, 40) := by kernel_rfl
theorem st_row : (Tryd.prog.info? 34).map (fun i => (i.zero, i.size, i.bytes)) = some (some (.agg #[.int .i64 0, .slice none 0 0]), 2, 32) := by kernel_rfl
theorem reads_one {w : World} {g : Nat} {t : TypeId} {a : Value} {B : Nat} (h : Blk w g t #[a]) (hB : g < B) : Reads w B 1 (some ⟨g, 0, none⟩) 1 [a] :=
  ⟨rfl, fun _ => ⟨_, rfl, hB, fun j u hj => by
    match j, hj with
    | 0, hj => injection hj with hj; subst hj; exact h.cell 0⟩⟩
theorem reads_two {w : World} {g : Nat} {t : TypeId} {a b : Value} {B : Nat} (h : Blk w g t #[a, b]) (hB : g < B) : Reads w B 2 (some ⟨g, 0, none⟩) 1 [a, b] :=
  ⟨rfl, fun _ => ⟨_, rfl, hB, fun j u hj => by
    match j, hj with
    | 0, hj => injection hj with hj; subst hj; exact h.cell 0
    | 1, hj => injection hj with hj; subst hj; exact h.cell 1⟩⟩
theorem dot_list : dotB.toList = [46] := by rw [ByteArray.toList_eq]; rfl
theorem own_blk {k j n c : Nat} (h : (Value.slice (some ⟨k, 0, none⟩) n c).ownBlock = some j) : j = k := by
  have e : some k = some j := h
  injection e with e
  exact e.symm
theorem own_at {w2 : World} {o : Obj} {kl kl' r r' c c' : Nat} (h : (Value.slice (some ⟨kl', 0, none⟩) r' c').ownBlock = (Value.slice (some ⟨kl, 0, none⟩) r c).ownBlock ∨ (Value.slice (some ⟨kl', 0, none⟩) r' c').ownBlock = some (w2.alloc o).heap.size) : kl' = kl ∨ w2.heap.size ≤ kl' := by
  rcases h with h | h
  · have e : some kl' = some kl := h
    injection e with e
    exact .inl e
  · have e : some kl' = some (w2.alloc o).heap.size := h
    injection e with e
    right
    rw [e, World.size_alloc]
    omega
/-- The reader at q. -/
def RdS (w : World) (base q : Nat) : PS → Prop
  | .shut L => ∃ G A c xs, Blk w q 56 #[.slice A L.length c, .bool false] ∧ Shu w base G A c xs L ∧ ∀ k, G k → base ≤ k ∧ k ≠ q
  | .opn Lp ln Fp nm ls => ∃ G ko co kf cf kl cl xs fx, Blk w q 56 #[.slice (some ⟨ko, 0, none⟩) (Lp.length + 1) co, .bool true] ∧ Opn w base G ko co kf cf kl cl xs fx Lp ln Fp nm ls ∧ ∀ k, G k → base ≤ k ∧ k ≠ q
set_option maxRecDepth 100000 in
set_option maxHeartbeats 4000000 in
theorem further_shut (q base : Nat) (L : List St) (s : ByteArray) (w : World) (h : RdS w base q (.shut L)) :
    Calls Tryd.prog 41 #[.pointer (some ⟨q, 0, none⟩), .string s] w fun e w' => e = .returned (.int .i64 3) ∧ w = w' := by
  obtain ⟨G, A, c, xs, hb, _, _⟩ := h
  have k1 : w.cell? ⟨q, 1, none⟩ = some (.bool false) := hb.cell 1
  clear hb
  go_enter Tryd.func41, Tryd.ntmps41
  go_wp2_with fail
  go_ret
  exact ⟨rfl, rfl⟩
set_option maxRecDepth 100000 in
set_option maxHeartbeats 4000000 in
theorem further_opn (q base : Nat) (Lp : List St) (ln : Int) (Fp : List Fd) (nm : ByteArray) (ls : List ByteArray) (s : ByteArray) (w : World) (h : RdS w base q (.opn Lp ln Fp nm ls)) (hs0 : 0 < s.size) (hs : s.size ≤ 1048576) (hbq : base ≤ q) (hbw : base ≤ w.heap.size)
    (hLp : Lp.length ≤ 1048576) (hFp : Fp.length ≤ 1048576) (hls : ls.length ≤ 1048576) :
    Calls Tryd.prog 41 #[.pointer (some ⟨q, 0, none⟩), .string s] w fun e w' => e = .returned (.int .i64 0) ∧ RdS w' base q (.opn Lp ln Fp nm (ls ++ [furT s])) ∧ Below base w w' := by
  obtain ⟨i0, hi0, hz0, hz1, hz2⟩ := info_parts str_row
  obtain ⟨G, ko, co, kf, cf, kl, cl, xs, fx, hb, ho, hG⟩ := h
  obtain ⟨X, hX⟩ : ∃ X, X = trimR (s.extract 1 s.size) := ⟨_, rfl⟩
  have HT := Lib.hid (fun W => trimEnd_any (s.extract 1 s.size) W (by rw [ByteArray.size_extract]; omega))
  rw [← hX] at HT
  obtain ⟨x, hx⟩ : ∃ x, x = furT s := ⟨_, rfl⟩
  have HX : Hid (x = if X = dotB then ⟨#[]⟩ else X) := Lib.hid (by rw [hx, hX]; rfl)
  rw [← hx]
  have hex : (s.extract 1 s.size) = s.extract 1 s.size := rfl
  have HB := Lib.hid hb
  have HO := Lib.hid ho
  have HGQ := Lib.hid hG
  have hp1 : (1 : Int) ≤ (s.size : Int) := by omega
  have k0 : w.cell? ⟨q, 0, none⟩ = some (.slice (some ⟨ko, 0, none⟩) (Lp.length + 1) co) := hb.cell 0
  have k1 : w.cell? ⟨q, 1, none⟩ = some (.bool true) := hb.cell 1
  clear hb ho hG hX hx hex hs0
  go_enter Tryd.func41, Tryd.ntmps41
  go_upto_if 16 with (go_at_call 55; refine (HT.out _).mono ?_; rintro e w1 ⟨rfl, hb1⟩; have HB1 := Lib.hid hb1; clear hb1)
  clear HT k0 k1
  go_cut [1] (fun v wx => v = .string x ∧ w1 = wx)
  case first =>
    go_wp2_with fail
    · go_meet
      have h9 : (X.toList == [46]) = true := by assumption
      rw [← dot_list, str_eq, decide_eq_true_eq] at h9
      exact ⟨by rw [HX.out, if_pos h9], rfl⟩
    · go_meet
      have h9 : (X.toList == [46]) = false := by assumption
      rw [← dot_list, str_eq, decide_eq_false_iff_not] at h9
      exact ⟨by rw [HX.out, if_neg h9], rfl⟩
  case rest =>
    obtain ⟨rfl, rfl⟩ := hcut
    have HO1 : Hid (Opn w1 base G ko co kf cf kl cl xs fx Lp ln Fp nm ls) := Lib.hid (HO.out.upd (Upd.of_below HB1.out (T := fun _ => False) (fun k h1 h2 => by omega)) (fun h => h) (fun h => h) (fun h => h) (fun _ _ h => h))
    have HR1 : Hid (Blk w1 q 56 #[.slice (some ⟨ko, 0, none⟩) (Lp.length + 1) co, .bool true]) := Lib.hid (HB.out.below HB1.out HB.out.lt)
    obtain ⟨m, hm⟩ : ∃ m, m = Lp.length := ⟨_, rfl⟩
    obtain ⟨p, hp⟩ : ∃ p, p = Fp.length := ⟨_, rfl⟩
    obtain ⟨r, hr⟩ : ∃ r, r = ls.length := ⟨_, rfl⟩
    have HM := Lib.hid hm
    have HPL := Lib.hid hp
    have HRL := Lib.hid hr
    have hx := HO1.out.xlen
    rw [← hm, ← hp] at hx
    have k0 : w1.cell? ⟨q, 0, none⟩ = some (.slice (some ⟨ko, 0, none⟩) (m + 1) co) := by rw [hm]; exact HR1.out.cell 0
    have kso : w1.cell? ⟨ko, m * 2 + 1, none⟩ = some (.slice (some ⟨kf, 0, none⟩) (p + 1) cf) := by
      rw [HO1.out.o.cellAt (m * 2 + 1) (by rw [hm]; omega), hp, ← hx.1]
      simp
    have ksf : w1.cell? ⟨kf, p * 2 + 1, none⟩ = some (.slice (some ⟨kl, 0, none⟩) r cl) := by
      rw [HO1.out.f.cellAt (p * 2 + 1) (by rw [hp]; omega), hr, ← hx.2]
      simp
    have fsf : w1.frozen? ⟨kf, p * 2 + 1, none⟩ = false := HO1.out.f.frozenAt _
    rw [← hm] at hLp
    rw [← hp] at hFp
    rw [← hr] at hls
    have b1 : (m : Int) < (m : Int) + 1 := by omega
    have b2 : (p : Int) < (p : Int) + 1 := by omega
    clear hm hp hr hx HB HO HX hp1
    go_wp2_with fail
    go_quiet (fail)
    obtain ⟨w2, hw2⟩ : ∃ w2, w2 = w1.drewN nq := ⟨_, rfl⟩
    rw [← hw2]
    have hd2 : Upd (fun _ => False) w1 w2 := by rw [hw2]; exact (Upd.refl _ _).drewN nq
    have HO2 : Hid (Opn w2 base G ko co kf cf kl cl xs fx Lp ln Fp nm ls) := Lib.hid (HO1.out.upd hd2 (fun h => h) (fun h => h) (fun h => h) (fun _ _ h => h))
    have HR2 : Hid (Blk w2 q 56 #[.slice (some ⟨ko, 0, none⟩) (m + 1) co, .bool true]) := Lib.hid (by rw [HM.out]; exact HR1.out.upd hd2 (fun h => h))
    have HB2 : Hid (Below w.heap.size w w2) := Lib.hid (by rw [hw2]; exact HB1.out.trans (below_drewB _ _ nq))
    have k2 : w2.cell? ⟨kf, p * 2 + 1, none⟩ = some (.slice (some ⟨kl, 0, none⟩) r cl) := by rw [hw2]; exact ksf
    have HL2 : Hid (w2.ownsRow base 9 1 (.slice (some ⟨kl, 0, none⟩) r cl) r (ls.map Value.string)) := Lib.hid (by rw [HRL.out]; exact HO2.out.l)
    have hz2b : base ≤ w2.heap.size := Nat.le_trans hbw HB2.out.size
    clear hw2 hd2 k0 kso ksf fsf HO1 HR1 HB1 b1
    go_wp2_with (at_builtin; refine wpList_append_any _ rfl (.tmp 39) (.tmp 41) 38 rfl base 9 i0 _ 1 16 Tryd.underlying38 hi0 hz0 hz1 hz2 rfl (by decide) (.slice (some ⟨kl, 0, none⟩) r cl) r (ls.map Value.string) rfl (HL2.out.alloc _) (w2.heap.size + 1) (some ⟨w2.heap.size, 0, none⟩) 1 1 [.string x] rfl (reads_one (Blk.new w2 _ _) (by simp)) (fun u hu => by simp at hu; subst hu; rfl) (by unfold maxLen; omega) (by omega) (by simp; omega) ?_; intro v5 w5 hown5 hg5 hat5; obtain ⟨kl', c5, rfl, hkl5, hlt5⟩ := hown5.form (by omega); have hu5 : Upd (fun k => k = kl) w2 w5 := ((Upd.refl _ w2).alloc _).grown hg5 (fun j hj => .inl (own_blk hj)); have HU5 := Lib.hid hu5; have HK5 : Hid (kl' = kl ∨ w2.heap.size ≤ kl') := Lib.hid (own_at hat5); have HW5 := Lib.hid hown5; have k5 : w5.cell? ⟨kf, p * 2 + 1, none⟩ = some (.slice (some ⟨kl, 0, none⟩) r cl) := (hu5.cell (p := ⟨kf, p * 2 + 1, none⟩) (World.block_lt_of_cell? w2 _ k2) HO2.out.ne.2.2).trans k2; have f5 : w5.frozen? ⟨kf, p * 2 + 1, none⟩ = false := (hu5.frozen (p := ⟨kf, p * 2 + 1, none⟩) (World.block_lt_of_cell? w2 _ k2) HO2.out.ne.2.2).trans (HO2.out.f.frozenAt _); clear hown5 hg5 hat5 hu5 hkl5 hlt5)
    go_ret
    have hfin := HO2.out.line (x := x) (kl' := kl') (c5 := c5) HU5.out HK5.out (by rw [← HRL.out]; exact HW5.out)
    rw [← HPL.out, ← HRL.out] at hfin
    have hqk : q ≠ kl ∧ q ≠ kf := ⟨Ne.symm (own_ne_blk HL2.out HR2.out (by decide)), Ne.symm (own_ne_blk HO2.out.f HR2.out (by decide))⟩
    refine ⟨rfl, ⟨G, ko, co, kf, cf, kl', c5, xs, fx, ?_, hfin.1, HGQ.out⟩, ?_⟩
    · rw [← HM.out]
      exact HR2.out.upd hfin.2 (fun h => by rcases h with h | h; exact hqk.1 h; exact hqk.2 h)
    · exact (HB2.out.mono hbw).trans (hfin.2.below (fun k hk => by
        rcases hk with rfl | rfl
        · exact (own_is HL2.out rfl).1
        · exact (own_is HO2.out.f rfl).1) hz2b)
end Go.Proofs.YtjkaigfpjebfbaaDoor
