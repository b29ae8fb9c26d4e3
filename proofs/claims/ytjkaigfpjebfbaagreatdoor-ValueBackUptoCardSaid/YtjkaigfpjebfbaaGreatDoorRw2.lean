/- relation.words: the walk. -/
import Derived.Test.YtjkaigfpjebfbaaGreatDoorRw
import Derived.Test.YtjkaigfpjebfbaaGreatDoorRp
namespace Go.Proofs.YtjkaigfpjebfbaaGreatDoor
open Go.RowKit
set_option linter.unusedVariables false

/-- A row of texts that a call has made. -/
def OwnT (w : World) (base : Nat) (v : Value) (l : List ByteArray) : Prop := ∃ A c, v = .slice A l.length c ∧ w.ownsRow base 9 1 v l.length (l.map Value.string)
theorem WdSt.next {w0 w : World} {sB oB fB aB itB : Nat} {s : ByteArray} {A : Option Addr} {cap : Nat} {out : List ByteArray} {frm was pos : Nat} (h : WdSt w0 w sB oB fB aB itB s A cap out frm was pos) (pos' : Nat) : WdSt w0 (w.iterAt itB s pos') sB oB fB aB itB s A cap out frm was pos' := by
  have hu : Upd (fun k => k = itB) w (w.iterAt itB s pos') := ⟨rfl, rfl, rfl, by rw [Lib.iterAt_size]; exact Nat.le_refl _, fun k _ hk => Lib.iterAt_other w itB k s pos' hk⟩
  obtain ⟨g1, g2, g3, g4⟩ := h.itn
  refine ⟨h.bs.upd hu (fun e => g4 e.symm), h.bo.upd hu (fun e => g1 e.symm), own_upd h.row hu (fun k hk e => ?_), h.bf.upd hu (fun e => g2 e.symm), h.ba.upd hu (fun e => g3 e.symm), Lib.iterAt_heap w itB s pos pos' h.it, h.bel.trans (hu.below (fun k hk => by rw [hk]; exact h.lo.2.2.2.2) h.bel.size), h.lo, h.fa, h.ne⟩
  subst e
  obtain ⟨_, cur, hc⟩ := own_is h.row hk
  rw [h.it] at hc; cases hc
theorem WdSt.new (w : World) (s : ByteArray) : WdSt w (((((w.alloc (.cells #[.string s] 9)).alloc (.cells #[.slice none 0 0] 93)).alloc (.cells #[.int .i64 0] 3)).alloc (.cells #[.int .i64 1] 3)).iter s 0) w.heap.size (w.heap.size + 1) (w.heap.size + 2) (w.heap.size + 3) (w.heap.size + 4) s none 0 [] 0 1 0 := by
  have e1 : (w.alloc (.cells #[.string s] 9)).heap.size = w.heap.size + 1 := World.size_alloc ..
  have e2 : ((w.alloc (.cells #[.string s] 9)).alloc (.cells #[.slice none 0 0] 93)).heap.size = w.heap.size + 2 := by rw [World.size_alloc, e1]
  have e3 : (((w.alloc (.cells #[.string s] 9)).alloc (.cells #[.slice none 0 0] 93)).alloc (.cells #[.int .i64 0] 3)).heap.size = w.heap.size + 3 := by rw [World.size_alloc, e2]
  have e4 : ((((w.alloc (.cells #[.string s] 9)).alloc (.cells #[.slice none 0 0] 93)).alloc (.cells #[.int .i64 0] 3)).alloc (.cells #[.int .i64 1] 3)).heap.size = w.heap.size + 4 := by rw [World.size_alloc, e3]
  have b1 := Blk.new w 9 #[.string s]
  have b2 := Blk.new (w.alloc (.cells #[.string s] 9)) 93 #[.slice none 0 0]
  have b3 := Blk.new ((w.alloc (.cells #[.string s] 9)).alloc (.cells #[.slice none 0 0] 93)) 3 #[.int .i64 0]
  have b4 := Blk.new (((w.alloc (.cells #[.string s] 9)).alloc (.cells #[.slice none 0 0] 93)).alloc (.cells #[.int .i64 0] 3)) 3 #[.int .i64 1]
  have b5 := World.iter_heap ((((w.alloc (.cells #[.string s] 9)).alloc (.cells #[.slice none 0 0] 93)).alloc (.cells #[.int .i64 0] 3)).alloc (.cells #[.int .i64 1] 3)) s 0
  rw [e1] at b2
  rw [e2] at b3
  rw [e3] at b4
  rw [e4] at b5
  have hb : Below w.heap.size w (((((w.alloc (.cells #[.string s] 9)).alloc (.cells #[.slice none 0 0] 93)).alloc (.cells #[.int .i64 0] 3)).alloc (.cells #[.int .i64 1] 3)).iter s 0) :=
    (((((Below.refl _ w).alloc (Nat.le_refl _) _).alloc (by rw [e1]; omega) _).alloc (by rw [e2]; omega) _).alloc (by rw [e3]; omega) _).alloc (by rw [e4]; omega) _
  exact ⟨(((b1.alloc _).alloc _).alloc _).alloc _, ((b2.alloc _).alloc _).alloc _, World.ownsRow_nil _ _ _ _, (b3.alloc _).alloc _, b4.alloc _, b5, hb, ⟨by omega, by omega, by omega, by omega, by omega⟩, by omega, fun k hk => by cases hk⟩
theorem out1_len {s : ByteArray} {out : List ByteArray} {frm was pos : Nat} : (Rl.out1 s out frm was pos).length ≤ out.length + 1 := by
  unfold Rl.out1
  split
  · simp
  · omega
set_option maxRecDepth 100000 in
set_option maxHeartbeats 4000000 in
theorem words_any (s : ByteArray) (w : World) (hs : s.size ≤ 1048576) :
    Calls Tryz.prog 83 #[.string s] w fun e w' => ∃ v, e = .returned v ∧ OwnT w' w.heap.size v (Rl.done s) ∧ Below w.heap.size w w' := by
  have HCA := Lib.hid (fun c W => class_any c W)
  go_enter Tryz.func83, Tryz.ntmps83
  go_wp2_with fail
  go_loopw [9] (fun _ wr => ∃ (A : Option Addr) (cap : Nat) (out : List ByteArray) (frm was pos : Nat), Hid (WdSt w wr w.heap.size (w.heap.size + 1) (w.heap.size + 2) (w.heap.size + 3) (w.heap.size + 4) s A cap out frm was pos) ∧ Hid (Rl.Inv s out frm was pos) ∧ pos ≤ s.size ∧ out.length ≤ pos) (fun _ wr => s.size - wr.iterPos (w.heap.size + 4))
  case atStart => exact ⟨none, 0, [], 0, 1, 0, Lib.hid (WdSt.new w s), Lib.hid (Rl.Inv.start s), Nat.zero_le _, Nat.zero_le _⟩
  case round =>
    obtain ⟨A, cap, out, frm, was, pos, HW, HI, hps, hol⟩ := hrel
    have hit := HW.out.it
    have HP := Lib.hid (iterPos_of hit)
    by_cases hp : pos < s.size
    · have hnx : ∀ ty, (Instr.next (.pointer (some ⟨w.heap.size + 4, 0, none⟩)) true ty).run Tryz.prog wr = _ := fun ty => Lib.run_next_any_at wr (w.heap.size + 4) s pos ty hit hp
      have hwd := Lib.decode_width_pos s pos hp
      have hin := decode_in s pos hp
      have hle := rune_le s pos
      have hru := HI.out.rune hp
      have hwn := HW.out.next (pos + (Utf8.decode s pos).2)
      obtain ⟨c, hc⟩ : ∃ c, c = (Utf8.decode s pos).1 := ⟨_, rfl⟩
      obtain ⟨n, hn⟩ : ∃ n, n = (Utf8.decode s pos).2 := ⟨_, rfl⟩
      rw [← hc] at hnx hle hru
      rw [← hn] at hnx hwd hin hru hwn
      obtain ⟨W1, hW1⟩ : ∃ W1, W1 = wr.iterAt (w.heap.size + 4) s (pos + n) := ⟨_, rfl⟩
      rw [← hW1] at hnx hwn
      have hit1 := hwn.it
      have HW1 := Lib.hid hwn
      have ka : W1.cell? ⟨w.heap.size + 3, 0, none⟩ = some (.int .i64 (was : Int)) := hwn.ba.cell 0
      have HCC := Lib.hid (HCA.out c)
      obtain ⟨k, hk⟩ : ∃ k, k = clsN c := ⟨_, rfl⟩
      rw [← hk] at HCC hru
      clear hW1 hit hc hn hwn hk HW HI
      by_cases hf : k ≠ was ∨ k = 2
      · rw [if_pos hf] at hru
        have HR := Lib.hid hru
        have hen := end_any w W1 (w.heap.size) (w.heap.size + 1) (w.heap.size + 2) (w.heap.size + 3) (w.heap.size + 4) s A cap out frm was (pos + n) pos HW1.out (by omega) (by omega) (by omega)
        have HEN := Lib.hid hen
        have HOL : Hid ((Rl.out1 s out frm was pos).length ≤ pos + 1) := Lib.hid (Nat.le_trans out1_len (by omega))
        clear hru hen
        by_cases hkw : k = was
        · have q1 : ((k : Int) != (was : Int)) = false := by (simp <;> omega)
          have q2 : ((k : Int) == 2) = true := by (simp <;> omega)
          clear hf hkw
          go_wp2_with (first
            | (go_at_call 98; refine (HCC.out _).mono ?_; rintro e w1 ⟨rfl, rfl⟩)
            | (go_at_call 97; refine HEN.out.mono ?_; rintro e w2 ⟨rfl, A2, cap2, hw2⟩; have HW2 := Lib.hid (hw2.cl k); have fa2 : w2.frozen? ⟨w.heap.size + 3, 0, none⟩ = false := hw2.ba.frozen 0; have ka2 : w2.cell? ⟨w.heap.size + 3, 0, none⟩ = some (.int .i64 (was : Int)) := hw2.ba.cell 0; clear hw2))
          refine ⟨⟨A2, cap2, _, _, _, _, HW2, HR, hin, Nat.le_trans HOL.out (by omega)⟩, ?_⟩
          show s.size - World.iterPos _ _ < s.size - wr.iterPos _
          rw [iterPos_of HW2.out.it, HP.out]
          omega
        · have q1 : ((k : Int) != (was : Int)) = true := by (simp <;> omega)
          clear hf hkw
          go_wp2_with (first
            | (go_at_call 98; refine (HCC.out _).mono ?_; rintro e w1 ⟨rfl, rfl⟩)
            | (go_at_call 97; refine HEN.out.mono ?_; rintro e w2 ⟨rfl, A2, cap2, hw2⟩; have HW2 := Lib.hid (hw2.cl k); have fa2 : w2.frozen? ⟨w.heap.size + 3, 0, none⟩ = false := hw2.ba.frozen 0; have ka2 : w2.cell? ⟨w.heap.size + 3, 0, none⟩ = some (.int .i64 (was : Int)) := hw2.ba.cell 0; clear hw2))
          refine ⟨⟨A2, cap2, _, _, _, _, HW2, HR, hin, Nat.le_trans HOL.out (by omega)⟩, ?_⟩
          show s.size - World.iterPos _ _ < s.size - wr.iterPos _
          rw [iterPos_of HW2.out.it, HP.out]
          omega
      · rw [if_neg hf] at hru
        have HR := Lib.hid hru
        have q1 : ((k : Int) != (was : Int)) = false := by (simp <;> omega)
        have q2 : ((k : Int) == 2) = false := by (simp <;> omega)
        clear hf hru
        go_wp2_with (go_at_call 98; refine (HCC.out _).mono ?_; rintro e w1 ⟨rfl, rfl⟩)
        refine ⟨⟨A, cap, _, _, _, _, HW1, HR, hin, by omega⟩, ?_⟩
        show s.size - World.iterPos _ _ < s.size - wr.iterPos _
        rw [iterPos_of HW1.out.it, HP.out]
        omega
    · have hpe : pos = s.size := by omega
      have hnx : ∀ ty, (Instr.next (.pointer (some ⟨w.heap.size + 4, 0, none⟩)) true ty).run Tryz.prog wr = _ := fun ty => Lib.run_next_end_at wr (w.heap.size + 4) s pos ty hit hp
      have ks : wr.cell? ⟨w.heap.size, 0, none⟩ = some (.string s) := HW.out.bs.cell 0
      have HEN := Lib.hid (end_any w wr (w.heap.size) (w.heap.size + 1) (w.heap.size + 2) (w.heap.size + 3) (w.heap.size + 4) s A cap out frm was pos s.size HW.out (by omega) (by omega) (by omega))
      have HF : Hid (Rl.out1 s out frm was s.size = Rl.done s) := Lib.hid (Rl.Inv.stop (by rw [← hpe]; exact HI.out))
      clear HW HI hit hpe
      go_wp2_with (go_at_call 97; refine HEN.out.mono ?_; rintro e w2 ⟨rfl, A2, cap2, hw2⟩; have hw2' : WdSt w w2 (w.heap.size) (w.heap.size + 1) (w.heap.size + 2) (w.heap.size + 3) (w.heap.size + 4) s A2 cap2 (Rl.out1 s out frm was s.size) s.size was pos := hw2; rw [HF.out] at hw2'; have HW2 := Lib.hid hw2'; have ko2 : w2.cell? ⟨w.heap.size + 1, 0, none⟩ = some (.slice A2 (Rl.done s).length cap2) := hw2'.bo.cell 0; clear hw2 hw2')
      go_ret
      exact ⟨_, rfl, ⟨A2, cap2, rfl, HW2.out.row⟩, HW2.out.bel⟩
end Go.Proofs.YtjkaigfpjebfbaaGreatDoor
