/- More contracts of package disk: Write, Flush, Read. -/
import Derived.Test.YtiiegimnnngnnaaDisk2
namespace Go.Proofs.Ytiiegimnnngnnaa
open Go.RowKit Go.Sort
set_option linter.unusedVariables false

section
variable {P : Program}
/-- copy of elements of several cells, into a block that is known whole. -/
theorem run_copy_rows (w : World) (dT sT ty elem : TypeId) (g o dLen dCap : Nat) (a : Addr) (sLen sCap sz : Nat) (cur : Array Value) (t : TypeId) (cs : List Value)
    (hu : P.underlying dT = some (.slice elem)) (hs : (P.info? elem).map (·.size) = some sz)
    (hg : w.heap[g]? = some (.cells cur t (0, 0))) (hn : cs.length = Nat.min sLen dLen * sz)
    (hsrc : ∀ j v, cs[j]? = some v → w.cell? (a.add j) = some v) (hfit : o + cs.length ≤ cur.size) (h1 : ∀ v ∈ cs, v.oneCell' = true) :
    (Builtin.copy_ #[dT, sT] ty #[.slice (some ⟨g, o, none⟩) dLen dCap, .slice (some a) sLen sCap]).run P w =
      .ok (goInt (Nat.min sLen dLen)) (w.setRow g (splice cur.toList o cs).toArray) := by
  have hl := run_loadCells_list (P := P) w a cs hsrc
  have hst := run_storeCells_at P g o t cs 0 cur w hg (by simpa using hfit) h1
  cases hq : P.info? elem with
  | none => simp [hq] at hs
  | some i =>
    have hi : i.size = sz := by simpa [hq] using hs
    simp only [Nat.add_zero] at hst
    simp [Builtin.copy_, run_underlying hu, Builtin.lenOf, Builtin.firstCells, sizeOf, typeInfo, hq, hi, ← hn, hl, hst, splice]
theorem wpList_copy_rows {w : World} {ops : Array Oper} {rest : List Oper} {o : Oper} {a : Act} {Q : Exit → Act → World → Prop} (hgd : o.guard = none) (d s : Operand) (dT sT : TypeId)
    (ho : o.op = .call { callee := .builtin .copy, args := #[d, s], argTypes := #[dT, sT] }) (elem : TypeId) (sz : Nat) (hu : P.underlying dT = some (.slice elem)) (hsz : (P.info? elem).map (·.size) = some sz)
    (g off dLen dCap : Nat) (ad : Addr) (sLen sCap : Nat) (hd : a.eval d = .slice (some ⟨g, off, none⟩) dLen dCap) (hs : a.eval s = .slice (some ad) sLen sCap)
    (cur : Array Value) (t : TypeId) (hg : w.heap[g]? = some (.cells cur t (0, 0))) (cs : List Value) (hn : cs.length = Nat.min sLen dLen * sz)
    (hsrc : ∀ j v, cs[j]? = some v → w.cell? (ad.add j) = some v) (hfit : off + cs.length ≤ cur.size) (h1 : ∀ v ∈ cs, v.oneCell' = true)
    (h : wpList P ops Q rest (a.put o.dst (goInt (Nat.min sLen dLen))) (w.setRow g (splice cur.toList off cs).toArray)) : wpList P ops Q (o :: rest) a w := by
  refine wpList_plain hgd fun K hK => ?_
  have hrun := run_copy_rows (P := P) w dT sT o.type elem g off dLen dCap ad sLen sCap sz cur t cs hu hsz hg hn hsrc hfit h1
  unfold Oper.wp
  simp [execOp, ho, resolve, invoke, builtin, hd, hs, hrun, Result.andThen]
  exact hK _ _ h
end

theorem Bytes.src {w : World} {A : Option Addr} {n : Nat} {bs : List Nat} (h : Bytes w A n bs) (hn : 0 < n) : ∃ b o, A = some ⟨b, o, none⟩ ∧ b < w.heap.size ∧ ∀ j v, (bs.map fun x => Value.int .u8 ((x : Nat) : Int))[j]? = some v → w.cell? ((⟨b, o, none⟩ : Addr).add j) = some v := by
  obtain ⟨b, o, e, hb, hc⟩ := h.2.2 hn
  refine ⟨b, o, e, hb, fun j v hv => ?_⟩
  have hj : j < bs.length := by
    rcases Nat.lt_or_ge j bs.length with h1 | h1
    · exact h1
    · rw [List.getElem?_eq_none (by simpa using h1)] at hv; cases hv
  have e2 : (⟨b, o, none⟩ : Addr).add j = ⟨b, o + j, none⟩ := by unfold Addr.add; split <;> simp_all
  rw [e2, hc j (by rw [← h.1]; exact hj), ← hv, List.getElem?_map, List.getElem?_eq_getElem hj, List.getD_eq_getElem?_getD, List.getElem?_eq_getElem hj]
  rfl

theorem byte_size : (Try.prog.info? 5).map (·.size) = some 1 := by kernel_rfl
set_option maxRecDepth 100000 in
set_option maxHeartbeats 1000000 in
theorem Write_any (p r s cr cs : Nat) (D : Dk) (i : Int) (A : Option Addr) (l c : Nat) (b : List Nat) (w : World) (h : DiskAt w p r s cr cs D) (hb : Bytes w A l b)
    (hA : ∀ g o, A = some ⟨g, o, none⟩ → 0 < l → ¬ dT p r s g) (hc : D.calls < 4611686018427387904) :
    Calls Try.prog 34 #[.pointer (some ⟨p, 0, none⟩), .int .i64 i, .slice A l c] w fun e w' =>
      e = .returned (.int .i64 (D.writeErr i l)) ∧ DiskAt w' p r s cr cs (D.write i b) ∧ Upd (dT p r s) w w' := by
  have hl := hb.1
  have hok := h.ok.write hc (i := i) hb.2.1
  have hwS := D.write_S i b
  have hwn := D.write_n i b
  have hwc := D.write_calls i b
  have HD := Lib.hid h
  have HC := Lib.hid (change_any p r s cr cs D w h hc)
  have HA := Lib.hid hA
  have HBy := Lib.hid hb
  clear h hA hb
  have hcase : (D.down = true) ∨ (D.down = false ∧ D.may i l = true) ∨ (D.down = false ∧ D.may i l = false) := by
    cases D.down <;> cases D.may i l <;> simp
  rcases hcase with hd | ⟨hd, hm⟩ | ⟨hd, hm⟩
  · have e1 : D.tick.down = true := by unfold Dk.tick; rw [hd]; simp
    have e2 : D.writeErr i l = 7 := by unfold Dk.writeErr; rw [e1]; rfl
    have e3 : D.write i b = D.tick := by unfold Dk.write; rw [hd]; rfl
    rw [e2, e3]
    rw [hd] at HC
    have HM := Lib.hid (fun (w1 : World) (h1 : DiskAt w1 p r s cr cs D.tick) => may_any p r s cr cs D.tick i A l c w1 h1)
    clear e1 e2 e3 hd hok hwS hwn hwc
    generalize D.tick.may i l = q at *
    go_enter Try.func34, Try.ntmps34
    go_wp2_with (first
      | (go_at_call 63; refine HC.out.mono ?_; rintro e w1 ⟨rfl, hd1, hu1⟩; have HD1 := Lib.hid hd1; clear hd1)
      | (go_at_call 64; refine (HM.out _ HD1.out).mono ?_; rintro e w2 ⟨rfl, rfl⟩))
    go_ret
    exact ⟨rfl, HD1.out, hu1⟩
  · have hin : 0 ≤ i ∧ i < (D.n : Int) ∧ l = 64 := by unfold Dk.may at hm; simp at hm; omega
    obtain ⟨hi0, hin, rfl⟩ := hin
    obtain ⟨j, rfl⟩ := Int.eq_ofNat_of_zero_le hi0
    have hjn : j < D.n := by omega
    have e2 : D.writeErr (j : Int) 64 = if D.tick.down then 7 else 0 := by unfold Dk.writeErr; rw [hm]; rfl
    have e3 : D.write (j : Int) b = { D.tick with R := Dk.lay D.R j (fun k => b.getD k 0) } := by unfold Dk.write; rw [hd, hl, hm]; rfl
    rw [e2, e3]
    rw [e3] at hok
    rw [hd] at HC
    have hm1 : D.tick.may (j : Int) 64 = true := by rw [← hm]; unfold Dk.may; rw [D.tick_n]
    have HM := Lib.hid (fun (w1 : World) (h1 : DiskAt w1 p r s cr cs D.tick) => by have := may_any p r s cr cs D.tick (j : Int) A 64 c w1 h1; rw [hm1] at this; exact this)
    have hnn := D.tick_n
    have hrr := D.tick_R
    obtain ⟨g, o, hAe, hgl, hsrc⟩ := HBy.out.src (by omega)
    have hgT := HA.out g o hAe (by omega)
    subst hAe
    obtain ⟨Rn, hRn⟩ : ∃ f, f = Dk.lay D.R j (fun k => b.getD k 0) := ⟨_, rfl⟩
    rw [← hRn] at hok ⊢
    clear e2 e3 hd hwS hwn hwc hm hm1
    generalize D.tick = D1 at *
    rw [← hnn] at hin hjn
    rw [← hrr] at hRn
    obtain ⟨n, R, S, calls, fuse, down⟩ := D1
    simp only at *
    have HRn := Lib.hid hRn
    clear hnn hrr hRn
    have hbl : ∀ v ∈ b.map (fun x => Value.int .u8 ((x : Nat) : Int)), v.oneCell' = true := bytes_one b
    have hlen : (b.map (fun x => Value.int .u8 ((x : Nat) : Int))).length = Nat.min 64 64 * 1 := by simp [hl]
    have hXs := hsrc
    obtain ⟨X, hX⟩ : ∃ X, X = b.map (fun x => Value.int .u8 ((x : Nat) : Int)) := ⟨_, rfl⟩
    have hl2 : (b.map (fun x => Value.int .u8 ((x : Nat) : Int))).length = 64 := by simp [hl]
    rw [← hX] at hbl hlen hXs hl2
    have HX := Lib.hid hX
    have HBl := Lib.hid hbl
    have HLen := Lib.hid hlen
    have HLen2 := Lib.hid hl2
    have HSrc := Lib.hid hXs
    have HGT := Lib.hid hgT
    have HL := Lib.hid hl
    have HOk := Lib.hid hok
    clear hbl hlen hsrc hXs hX hl2 hgT hl hok HA HBy hc
    cases down
    all_goals
      go_enter Try.func34, Try.ntmps34
      go_wp2_with (first
        | (go_at_call 63; refine HC.out.mono ?_; rintro e w1 ⟨rfl, hd1, hu1⟩; have HD1 := Lib.hid hd1; have c0 : w1.cell? ⟨p, 0, none⟩ = some (.slice (some ⟨r, 0, none⟩) n cr) := hd1.1.cell 0; obtain ⟨C, hCb, hCs0, hCc⟩ := hd1.2.1; have hCs : 64 * n ≤ C.size := hCs0; clear hCs0; have HCb := Lib.hid hCb; have HCc := Lib.hid hCc; clear hd1 hCb hCc; have hcopy := run_copy_rows (P := Try.prog) w1 22 22 3 5 r (j * 64) 64 64 ⟨g, o, none⟩ 64 c 1 C 92 X Try.underlying22 byte_size HCb.out HLen.out (fun (k : Nat) (v : Value) hv => (hu1.cell (p := (⟨g, o, none⟩ : Addr).add k) (by rw [block_of_add]; exact hgl) (by rw [block_of_add]; exact HGT.out)).trans (HSrc.out k v hv)) (by have := HLen2.out; omega) HBl.out)
        | (go_at_call 64; refine (HM.out _ HD1.out).mono ?_; rintro e w2 ⟨rfl, rfl⟩))
      go_ret
      obtain ⟨hb1, hr1, hs1, hrs, hcr, hcs, hok1⟩ := HD1.out
      have hne := (HD1.out).ne
      refine ⟨rfl, ⟨hb1.rowFar hne.1 _, ?_, hs1.rowFar (Ne.symm hrs) _, hrs, hcr, hcs, HOk.out⟩, hu1.setRow (.inl (.inr (.inl rfl))) _⟩
      rw [HX.out]
      refine (Sect.splice_ (f := R) ⟨C, HCb.out, hCs, HCc.out, HCb.out.row _⟩ (by rw [HL.out]; omega)).congr fun k hk => ?_
      rw [HRn.out]
      unfold Dk.lay
      rw [HL.out, Nat.mul_comm j 64]
  · have e3 : D.write i b = D.tick := by unfold Dk.write; rw [hd, hl, hm]; rfl
    have e2 : D.writeErr i l = if D.tick.down then 7 else 1 := by unfold Dk.writeErr; rw [hm]; rfl
    rw [e2, e3]
    rw [hd] at HC
    have hm1 : D.tick.may i l = false := by rw [← hm]; unfold Dk.may; rw [D.tick_n]
    have HM := Lib.hid (fun (w1 : World) (h1 : DiskAt w1 p r s cr cs D.tick) => by have := may_any p r s cr cs D.tick i A l c w1 h1; rw [hm1] at this; exact this)
    clear e2 e3 hd hwS hwn hwc hm hm1 hok hl
    generalize D.tick = D1 at *
    obtain ⟨n, R, S, calls, fuse, down⟩ := D1
    simp only at *
    cases down
    all_goals
      go_enter Try.func34, Try.ntmps34
      go_wp2_with (first
        | (go_at_call 63; refine HC.out.mono ?_; rintro e w1 ⟨rfl, hd1, hu1⟩; have HD1 := Lib.hid hd1; clear hd1)
        | (go_at_call 64; refine (HM.out _ HD1.out).mono ?_; rintro e w2 ⟨rfl, rfl⟩))
      go_ret
      exact ⟨rfl, HD1.out, hu1⟩
end Go.Proofs.Ytiiegimnnngnnaa
