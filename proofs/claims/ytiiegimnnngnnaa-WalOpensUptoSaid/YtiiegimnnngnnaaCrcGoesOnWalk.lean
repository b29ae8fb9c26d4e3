/- The law CrcGoesOn, walked (inputs of bulk at most 1048576). -/
import Derived.Test.YtiiegimnnngnnaaCrc
import Derived.Test.YtiiegimnnngnnaaOpen
import Derived.Test.YtiiegimnnngnnaaWords
import Derived.Deep.RegionWith
namespace Go.Proofs.Ytiiegimnnngnnaa
open Go.RowKit
set_option linter.unusedVariables false

theorem byte_info : (Try.prog.info? 5).map (fun i => (i.zero, i.size, i.bytes)) = some (some (.int .u8 0), 1, 1) := by kernel_rfl
theorem list3 {f : Nat → Value} (a b c : List Nat) : (([] ++ a.map f) ++ b.map f) ++ c.map f = ((a ++ b) ++ c).map f := by simp

set_option maxRecDepth 100000 in
set_option maxHeartbeats 1000000 in
theorem goesOn (A B C : Option Addr) (n m l ca cb cc : Nat) (a b c : List Nat) (w : World) (ha : Bytes w A n a) (hb : Bytes w B m b) (hc : Bytes w C l c) (hn : n + m + l ≤ 1048576) :
    Calls Try.prog 4 #[.slice A n ca, .slice B m cb, .slice C l cc] w fun e w' => e = .returned (.bool true) ∧ Below w.heap.size w w' := by
  have HA := Lib.hid ha
  have HB := Lib.hid hb
  have HC := Lib.hid hc
  clear ha hb hc
  obtain ⟨i0, hi0, hz0, hz1, hz2⟩ := info_parts byte_info
  go_enter Try.func4, Try.ntmps4
  go_wp2_with (first
    | (at_builtin
       have ho := World.ownsRow_lit (e := 5) (size := 1) (base := w.heap.size) w #[] 0 (Nat.le_refl _) (by unfold maxLen; omega) rfl
       refine wpList_append_any _ rfl (.tmp 8) (.tmp 9) _ rfl w.heap.size 5 i0 _ 1 1 Try.underlying22 hi0 hz0 hz1 hz2 rfl (by omega) _ 0 [] rfl ho w.heap.size A n ca _ rfl (HA.out.reads.alloc (Nat.le_refl _) _) (bytes_one a) (by unfold maxLen; omega) (by omega) (by simp) ?_
       intro v1 w1 hown1 hg1 hat1
       have hb1 : Below w.heap.size w w1 := ((Below.refl _ _).alloc (Nat.le_refl _) _).grown hg1 (by simp) (fun k hk => (ho.lt k hk).1)
       clear ho hg1 hat1)
    | (at_builtin
       refine wpList_append_any _ rfl (.tmp 10) (.tmp 11) _ rfl w.heap.size 5 i0 _ 1 1 Try.underlying22 hi0 hz0 hz1 hz2 rfl (by omega) v1 (0 + n) ([] ++ a.map fun x => Value.int .u8 ((x : Nat) : Int)) rfl hown1 w.heap.size B m cb _ rfl (HB.out.reads.below hb1) (bytes_one b) (by unfold maxLen; omega) (by omega) hb1.size ?_
       intro v2 w2 hown2 hg2 hat2
       have hb2 : Below w.heap.size w w2 := hb1.grown hg2 hb1.size (fun k hk => (hown1.lt k hk).1)
       clear hg2 hat2 hown1 hb1)
    | (at_builtin
       refine wpList_append_any _ rfl (.tmp 12) (.tmp 13) _ rfl w.heap.size 5 i0 _ 1 1 Try.underlying22 hi0 hz0 hz1 hz2 rfl (by omega) v2 (0 + n + m) (([] ++ a.map fun x => Value.int .u8 ((x : Nat) : Int)) ++ b.map fun x => Value.int .u8 ((x : Nat) : Int)) rfl hown2 w.heap.size C l cc _ rfl (HC.out.reads.below hb2) (bytes_one c) (by unfold maxLen; omega) (by omega) hb2.size ?_
       intro v3 w3 hown3 hg3 hat3
       have hb3 : Below w.heap.size w w3 := hb2.grown hg3 hb2.size (fun k hk => (hown2.lt k hk).1)
       clear hg3 hat3 hown2 hb2))
  rw [list3, Nat.zero_add] at hown3
  have hall : ∀ x ∈ (a ++ b) ++ c, x < 256 := fun x hx => by
    rcases List.mem_append.1 hx with h | h
    · rcases List.mem_append.1 h with h | h
      · exact HA.out.2.1 x h
      · exact HB.out.2.1 x h
    · exact HC.out.2.1 x h
  obtain ⟨A3, cp3, hv3, hby3⟩ := Bytes.of_own hown3 hall
  have hAw := HA.out.below hb3
  have hBw := HB.out.below hb3
  have hCw := HC.out.below hb3
  have hls := CrcLaw.more_lt (show 0 < 4294967296 by omega) a HA.out.2.1
  have hlm := CrcLaw.more_lt hls b HB.out.2.1
  have H1 := Lib.hid (Sum_any A n ca a w3 hAw (by unfold maxLen; omega))
  have H2 := Lib.hid (More_any (CrcLaw.sum a) B m cb b w3 hls hBw (by unfold maxLen; omega))
  have H3 := Lib.hid (More_any (CrcLaw.more (CrcLaw.sum a) b) C l cc c w3 hlm hCw (by unfold maxLen; omega))
  have h4 := Sum_any A3 (n + m + l) cp3 ((a ++ b) ++ c) w3 hby3 (by unfold maxLen; omega)
  have h5 := More_any (CrcLaw.sum a) none 0 0 [] w3 hls (Bytes.nil w3) (by unfold maxLen; omega)
  have e4 : CrcLaw.sum ((a ++ b) ++ c) = CrcLaw.more (CrcLaw.more (CrcLaw.sum a) b) c := by
    show CrcLaw.more 0 _ = CrcLaw.more (CrcLaw.more (CrcLaw.more 0 a) b) c
    rw [CrcLaw.more_append, CrcLaw.more_append, List.append_assoc]
  rw [e4] at h4
  rw [CrcLaw.more_nil] at h5
  have H4 := Lib.hid h4
  have H5 := Lib.hid h5
  clear h4 h5 e4 hall hAw hBw hCw hby3 hown3 hls hlm
  rw [hv3]
  clear hv3
  generalize CrcLaw.more (CrcLaw.more (CrcLaw.sum a) b) c = x3 at *
  generalize CrcLaw.more (CrcLaw.sum a) b = x2 at *
  generalize CrcLaw.sum a = x1 at *
  go_wp2_with (first
    | (go_at_call_of 23 A; refine H1.out.mono ?_; rintro e w' ⟨rfl, rfl⟩)
    | (go_at_call_of 23 A3; refine H4.out.mono ?_; rintro e w' ⟨rfl, rfl⟩)
    | (go_at_call_of 25 B; refine H2.out.mono ?_; rintro e w' ⟨rfl, rfl⟩)
    | (go_at_call_of 25 C; refine H3.out.mono ?_; rintro e w' ⟨rfl, rfl⟩)
    | (go_at_call 25; refine H5.out.mono ?_; rintro e w' ⟨rfl, rfl⟩)
    | (go_at_call 27; refine (awake1 _).mono ?_; rintro e w' ⟨rfl, hbel⟩))
  go_ret
  exact ⟨rfl, hb3.trans (hbel.mono hb3.size)⟩

section
open Go.ChangeShapes Go.WideShapes Go.ChangeAt
theorem crcGoesOn_walk {H : Type} {enc : TypeId × Value → H} (W : World) {base : Nat} (v0 v1 v2 : Value) {d0 d1 d2 : DataW H} {p0 p1 p2 : List MemPlace} (h0 : DataW.Trod enc Try.prog W 0 (fun _ => true) true 22 v0 d0 p0) (o0 : Value.okWide Try.prog W .any base 22 v0)
    (h1 : DataW.Trod enc Try.prog W 0 (fun _ => true) true 22 v1 d1 p1) (o1 : Value.okWide Try.prog W .any base 22 v1)
    (h2 : DataW.Trod enc Try.prog W 0 (fun _ => true) true 22 v2 d2 p2) (o2 : Value.okWide Try.prog W .any base 22 v2) (hk : Rows.uptoBulkAll [d0, d1, d2] ≤ 1048576) :
    Calls Try.prog 4 #[v0, v1, v2] W fun e w' => e = .returned (.bool true) ∧ Below W.heap.size W w' := by
  obtain ⟨A, n, ca, a, rfl, ha, _, _, na, _⟩ := open_bytes h0 o0
  obtain ⟨B, m, cb, b, rfl, hb, _, _, nb, _⟩ := open_bytes h1 o1
  obtain ⟨C, l, cc, c, rfl, hc, _, _, nc, _⟩ := open_bytes h2 o2
  simp only [Rows.uptoBulkAll] at hk
  exact goesOn A B C n m l ca cb cc a b c W ha hb hc (by omega)
end
end Go.Proofs.Ytiiegimnnngnnaa
