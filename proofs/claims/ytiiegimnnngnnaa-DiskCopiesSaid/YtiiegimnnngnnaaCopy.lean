/- disk.Copy. -/
import Derived.Test.YtiiegimnnngnnaaDo3
namespace Go.Proofs.Ytiiegimnnngnnaa
open Go.RowKit Go.Sort
set_option linter.unusedVariables false

theorem sector_zero_size : zero64.cells.size = 64 := by rfl
theorem Sect.reads {w : World} {g t n : Nat} {f : Nat → Nat} (h : Sect w g t n f) : Reads w w.heap.size 64 (some ⟨g, 0, none⟩) n (((List.range (64 * n)).map f).map fun x => Value.int .u8 ((x : Nat) : Int)) :=
  ⟨by simp [Nat.mul_comm], fun _ => ⟨_, rfl, h.lt, h.list⟩⟩
theorem Sect.of_own {w : World} {base t n : Nat} {v : Value} {f : Nat → Nat} (h : w.ownsRow base t 64 v n (((List.range (64 * n)).map f).map fun x => Value.int .u8 ((x : Nat) : Int))) (hn : 0 < n) : ∃ g c, v = .slice (some ⟨g, 0, none⟩) n c ∧ base ≤ g ∧ n ≤ c ∧ Sect w g t n f := by
  rcases h.2 with ⟨_, h0⟩ | ⟨g, cap, cur, rfl, hg, hh, hnc, _, hsz, ht⟩
  · omega
  · have hle : 64 * n ≤ cur.size := by rw [hsz, Nat.mul_comm]; exact Nat.mul_le_mul_right 64 hnc
    refine ⟨g, cap, rfl, hg, hnc, cur, hh, hle, fun i hi => ?_⟩
    have h2 : (cur.toList.take (n * 64))[i]? = some (.int .u8 ((f i : Nat) : Int)) := by
      rw [ht, List.getElem?_map, List.getElem?_map, List.getElem?_range hi]; rfl
    rw [List.getElem?_take, if_pos (by omega), Array.getElem?_toList] at h2
    exact h2
set_option maxRecDepth 100000 in
set_option maxHeartbeats 1000000 in
theorem CloneS_any (g n c : Nat) (f : Nat → Nat) (w : World) (h : Sect w g 92 n f) (hn : 0 < n) (hn4 : n ≤ 4096) :
    Calls Try.prog 68 #[.slice (some ⟨g, 0, none⟩) n c] w fun e w' => ∃ g' c', e = .returned (.slice (some ⟨g', 0, none⟩) n c') ∧ w.heap.size ≤ g' ∧ n ≤ c' ∧ Sect w' g' 92 n f ∧ Below w.heap.size w w' := by
  have HB := Lib.hid h.reads
  clear h
  obtain ⟨i0, hi0, hz0, hz1, hz2⟩ := info_parts sector_row
  have hnil := fun (w : World) => Lib.run_eql_slice_nil (P := Try.prog) w 88 92 (some ⟨g, 0, none⟩) n c 0 0 Try.underlying88
  have hone : ∀ u ∈ (((List.range (64 * n)).map f).map fun x => Value.int .u8 ((x : Nat) : Int)), u.oneCell' = true := bytes_one _
  have HOne := Lib.hid hone
  obtain ⟨X, hX⟩ : ∃ X, X = (((List.range (64 * n)).map f).map fun x => Value.int .u8 ((x : Nat) : Int)) := ⟨_, rfl⟩
  rw [← hX] at HB HOne
  have HX := Lib.hid hX
  clear hX hone
  have hzc : zero64.cells.size = 64 := sector_zero_size
  have HZc := Lib.hid hzc
  clear hzc
  generalize zero64 = Z at *
  go_enter Try.func68, Try.ntmps68
  go_wp2_with (
    (at_builtin
     have ho := own_empty w 92 64 w.heap.size rfl
     refine wpList_append_any _ rfl (.tmp 5) (.tmp 6) _ rfl w.heap.size 92 i0 _ 64 64 Try.underlying88 hi0 hz0 hz1 hz2 HZc.out (by omega) _ 0 [] rfl ho w.heap.size (some ⟨g, 0, none⟩) n c _ rfl (HB.out.alloc (Nat.le_refl _) _) HOne.out (by unfold maxLen; omega) (by omega) (by simp) ?_
     intro v1 w1 hown1 hg1 hat1
     have hb1 : Below w.heap.size w w1 := ((Below.refl _ _).alloc (Nat.le_refl _) _).grown hg1 (by simp) (fun k hk => (ho.lt k hk).1)
     rw [Nat.zero_add, List.nil_append, HX.out] at hown1
     obtain ⟨g', c', rfl, hg', hc', hsec⟩ := Sect.of_own hown1 hn
     have HS := Lib.hid hsec
     clear ho hg1 hat1 hown1 hsec))
  go_ret
  exact ⟨g', c', rfl, hg', hc', HS.out, hb1⟩
def fiveP (W : World) (p : Nat) (v0 v1 v2 v3 v4 : Value) : Prop := W.cell? ⟨p, 0, none⟩ = some v0 ∧ W.cell? ⟨p, 1, none⟩ = some v1 ∧ W.cell? ⟨p, 2, none⟩ = some v2 ∧ W.cell? ⟨p, 3, none⟩ = some v3 ∧ W.cell? ⟨p, 4, none⟩ = some v4
theorem fiveP_of {w W : World} {p B : Nat} {t : TypeId} {v0 v1 v2 v3 v4 : Value} (h : Blk w p t #[v0, v1, v2, v3, v4]) (hb : Below B w W) (hp : p < B) : fiveP W p v0 v1 v2 v3 v4 :=
  ⟨(hb.cell hp).trans (h.cell 0), (hb.cell hp).trans (h.cell 1), (hb.cell hp).trans (h.cell 2), (hb.cell hp).trans (h.cell 3), (hb.cell hp).trans (h.cell 4)⟩
set_option maxRecDepth 100000 in
set_option maxHeartbeats 2000000 in
theorem Copy_any (p r s cr cs : Nat) (D : Dk) (w : World) (h : DiskAt w p r s cr cs D) (hn : 0 < D.n) :
    Calls Try.prog 44 #[.pointer (some ⟨p, 0, none⟩)] w fun e w' => ∃ p' r' s' cr' cs', e = .returned (.pointer (some ⟨p', 0, none⟩)) ∧ DiskAt w' p' r' s' cr' cs' D ∧ Below w.heap.size w w' ∧ w.heap.size ≤ p' ∧ w.heap.size ≤ r' ∧ w.heap.size ≤ s' := by
  have H := Lib.hid h
  have hok := h.ok
  have hn4 := hok.n
  have hne := h.2.2.2.1
  obtain ⟨n, hnn⟩ : ∃ n, n = D.n := ⟨_, rfl⟩
  have hb : Blk w p 90 #[.slice (some ⟨r, 0, none⟩) n cr, .slice (some ⟨s, 0, none⟩) n cs, .int .i64 (D.calls : Int), .int .i64 (D.fuse : Int), .bool D.down] := by rw [hnn]; exact h.1
  have hsr : Sect w r 92 n D.R := by rw [hnn]; exact h.2.1
  have hss : Sect w s 92 n D.S := by rw [hnn]; exact h.2.2.1
  rw [← hnn] at hn hn4
  have hpl := hb.lt
  have HB := Lib.hid hb
  have HSr := Lib.hid hsr
  have HSs := Lib.hid hss
  have fin : ∀ (w' : World) (p' r' s' cr' cs' : Nat), Blk w' p' 90 #[.slice (some ⟨r', 0, none⟩) n cr', .slice (some ⟨s', 0, none⟩) n cs', .int .i64 (D.calls : Int), .int .i64 (D.fuse : Int), .bool D.down] → Sect w' r' 92 n D.R → Sect w' s' 92 n D.S → r' ≠ s' → n ≤ cr' → n ≤ cs' → DiskAt w' p' r' s' cr' cs' D := by
    intro w' p' r' s' cr' cs' h1 h2 h3 h4 h5 h6
    rw [hnn] at h1 h2 h3 h5 h6
    exact ⟨h1, h2, h3, h4, h5, h6, hok⟩
  have HFin := Lib.hid fin
  have c0 : w.cell? ⟨p, 0, none⟩ = some (.slice (some ⟨r, 0, none⟩) n cr) := hb.cell 0
  have hbd : Below w.heap.size w w.drew := ⟨rfl, rfl, rfl, Nat.le_refl _, fun _ _ => rfl⟩
  generalize D.calls = calls at *
  generalize D.fuse = fuse at *
  generalize D.down = down at *
  clear h hok hb hsr hss fin hnn hne H
  go_enter Try.func44, Try.ntmps44
  go_wp2_with fail
  go_region_held3 (fun W => W.cell? ⟨p, 0, none⟩ = some (.slice (some ⟨r, 0, none⟩) n cr) ∧ W.cell? ⟨p, 1, none⟩ = some (.slice (some ⟨s, 0, none⟩) n cs) ∧ W.cell? ⟨p, 2, none⟩ = some (.int .i64 (calls : Int)) ∧ W.cell? ⟨p, 3, none⟩ = some (.int .i64 (fuse : Int)) ∧ W.cell? ⟨p, 4, none⟩ = some (.bool down))
    (first | (refine fiveP_of HB.out ?_ hpl; assumption) | ((refine fiveP_of HB.out (Below.alloc ?_ ?_ _) hpl) <;> assumption))
    (first
      | (go_at_call_of 68 (Value.slice (some ⟨r, 0, none⟩) n cr)
         refine (CloneS_any r n cr D.R _ HSr.out.drew hn hn4).mono ?_
         rintro e w4 ⟨r', cr', rfl, hr', hcr', hsr', hb4⟩
         have hbw4 : Below w.heap.size w w4 := hbd.trans hb4
         have HSr' := Lib.hid hsr'
         have hrl := hsr'.lt
         clear hsr')
      | (go_at_call_of 68 (Value.slice (some ⟨s, 0, none⟩) n cs)
         refine (CloneS_any s n cs D.S _ (HSs.out.of_block (hbw4.block s HSs.out.lt)) hn hn4).mono ?_
         rintro e w5 ⟨s', cs', rfl, hs', hcs', hss', hb5⟩
         have hbw5 : Below w.heap.size w w5 := hbw4.trans (hb5.mono hbw4.size)
         have hle5 : w.heap.size ≤ w5.heap.size := hbw5.size
         have HSs' := Lib.hid hss'
         have HSr2 : Hid (Sect w5 r' 92 n D.R) := Lib.hid (HSr'.out.of_block (hb5.block r' hrl))
         have hsl := hss'.lt
         have hrl5 : r' < w5.heap.size := Nat.lt_of_lt_of_le hrl hb5.size
         clear hss'))
  go_wp2_with fail
  go_ret
  have hb6 : Below w5.heap.size w5 (w5.alloc (.cells #[.slice (some ⟨r', 0, none⟩) n cr', .slice (some ⟨s', 0, none⟩) n cs', .int .i64 (calls : Int), .int .i64 (fuse : Int), .bool down] 90)) := (Below.refl _ _).alloc (Nat.le_refl _) _
  have hne' : r' ≠ s' := by omega
  exact ⟨w5.heap.size, r', s', cr', cs', rfl, HFin.out _ _ _ _ _ _ (Blk.new _ _ _) (HSr2.out.alloc _) (HSs'.out.alloc _) hne' hcr' hcs', (hbw5.trans (hb6.mono hle5)), hle5, by simpa using hr', Nat.le_trans hbw4.size hs'⟩
end Go.Proofs.Ytiiegimnnngnnaa
