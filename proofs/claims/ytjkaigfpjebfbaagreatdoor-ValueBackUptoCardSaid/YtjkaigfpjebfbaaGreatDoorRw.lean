/- relation.words. -/
import Derived.Test.YtjkaigfpjebfbaaGreatDoorRc
import Derived.Deep.DeepCutAuto
import Derived.Deep.RegionHeld3
import Derived.Deep.RegionLaw
namespace Go.Proofs.YtjkaigfpjebfbaaGreatDoor
open Go.RowKit
set_option linter.unusedVariables false

theorem own_upd {T : Nat → Prop} {w w' : World} {base : Nat} {e : TypeId} {size n : Nat} {v : Value} {xs : List Value} (h : w.ownsRow base e size v n xs) (hu : Upd T w w') (hT : ∀ k, v.ownBlock = some k → ¬ T k) : w'.ownsRow base e size v n xs := by
  refine ⟨h.1, ?_⟩
  rcases h.2 with h2 | ⟨g, cap, cur, rfl, hg, hh, h3⟩
  · exact .inl h2
  · exact .inr ⟨g, cap, cur, rfl, hg, (hu.block g (Blk.lt hh) (hT g rfl)).trans hh, h3⟩
theorem own_shape {w : World} {base : Nat} {e : TypeId} {size n : Nat} {v : Value} {xs : List Value} (h : w.ownsRow base e size v n xs) : ∃ A c, v = .slice A n c := by
  rcases h.2 with ⟨rfl, rfl⟩ | ⟨g, cap, cur, rfl, _⟩
  · exact ⟨none, 0, rfl⟩
  · exact ⟨_, cap, rfl⟩
theorem own_is {w : World} {base : Nat} {e : TypeId} {size n : Nat} {v : Value} {xs : List Value} (h : w.ownsRow base e size v n xs) {k : Nat} (hk : v.ownBlock = some k) : base ≤ k ∧ ∃ cur, w.heap[k]? = some (.cells cur e (0, 0)) := by
  rcases h.2 with ⟨rfl, _⟩ | ⟨g, cap, cur, rfl, hg, hh, _⟩
  · cases hk
  · have : g = k := by simpa [Value.ownBlock] using hk
    subst this
    exact ⟨hg, cur, hh⟩
theorem str_row : (Tryz.prog.info? 9).map (fun i => (i.zero, i.size, i.bytes)) = some (some (.string ⟨#[]⟩), 1, 16) := by kernel_rfl
theorem reads_one {w : World} {g : Nat} {t : TypeId} {v : Value} {B : Nat} (h : Blk w g t #[v]) (hB : g < B) : Reads w B 1 (some ⟨g, 0, none⟩) 1 [v] :=
  ⟨rfl, fun _ => ⟨_, rfl, hB, fun j u hj => by
    have : j = 0 := by
      rcases j with _ | j
      · rfl
      · simp at hj
    subst this
    simp at hj
    subst hj
    have := h.cell 0
    simpa [Addr.add] using this⟩⟩
/-- The words under way: what stands in the closure's cells. -/
structure WdSt (w0 w : World) (sB oB fB aB itB : Nat) (s : ByteArray) (A : Option Addr) (cap : Nat) (out : List ByteArray) (frm was pos : Nat) : Prop where
  bs : Blk w sB 9 #[.string s]
  bo : Blk w oB 93 #[.slice A out.length cap]
  row : w.ownsRow w0.heap.size 9 1 (.slice A out.length cap) out.length (out.map Value.string)
  bf : Blk w fB 3 #[.int .i64 (frm : Int)]
  ba : Blk w aB 3 #[.int .i64 (was : Int)]
  it : w.heap[itB]? = some (.stringIter s pos)
  bel : Below w0.heap.size w0 w
  lo : w0.heap.size ≤ sB ∧ w0.heap.size ≤ oB ∧ w0.heap.size ≤ fB ∧ w0.heap.size ≤ aB ∧ w0.heap.size ≤ itB
  fa : fB ≠ aB
  ne : ∀ k, (Value.slice A out.length cap).ownBlock = some k → k ≠ sB
section
variable {w0 w w5 : World} {sB oB fB aB itB : Nat} {s t : ByteArray} {A A5 : Option Addr} {cap c5 : Nat} {out : List ByteArray} {frm was pos i : Nat}
theorem it_ne {T : TypeId} {g : Nat} {C : Array Value} (h : w.heap[itB]? = some (.stringIter s pos)) (hb : Blk w g T C) : itB ≠ g := by
  intro e
  subst e
  unfold Blk at hb
  rw [h] at hb
  cases hb
theorem WdSt.itn (h : WdSt w0 w sB oB fB aB itB s A cap out frm was pos) : itB ≠ oB ∧ itB ≠ fB ∧ itB ≠ aB ∧ itB ≠ sB := ⟨it_ne h.it h.bo, it_ne h.it h.bf, it_ne h.it h.ba, it_ne h.it h.bs⟩
theorem WdSt.of (h : WdSt w0 w sB oB fB aB itB s A cap out frm was pos) : oB ≠ sB ∧ oB ≠ fB ∧ oB ≠ aB ∧ fB ≠ sB ∧ aB ≠ sB := ⟨h.bo.ne_ h.bs (by decide), h.bo.ne_ h.bf (by decide), h.bo.ne_ h.ba (by decide), h.bf.ne_ h.bs (by decide), h.ba.ne_ h.bs (by decide)⟩
/-- The place from which the next word runs moves. -/
theorem WdSt.mv (h : WdSt w0 w sB oB fB aB itB s A cap out frm was pos) (i : Nat) : WdSt w0 (w.setCell ⟨fB, 0, none⟩ (.int .i64 (i : Int))) sB oB fB aB itB s A cap out i was pos := by
  have hu : Upd (fun k => k = fB) w (w.setCell ⟨fB, 0, none⟩ (.int .i64 (i : Int))) := (Upd.refl (fun k => k = fB) w).setCell (p := ⟨fB, 0, none⟩) (.inl rfl) _
  obtain ⟨h1, h2, h3, h4, h5⟩ := h.of
  obtain ⟨g1, g2, g3, g4⟩ := h.itn
  have hr : ∀ k, (Value.slice A out.length cap).ownBlock = some k → ¬ k = fB := fun k hk e => by
    subst e
    exact own_blk_ne h.row h.bf (by decide) hk
  refine ⟨h.bs.upd hu (fun e => h4 e.symm), h.bo.upd hu h2, own_upd h.row hu hr, ?_, h.ba.upd hu (fun e => h.fa e.symm), (hu.block itB ?_ g2).trans h.it, ?_, h.lo, h.fa, h.ne⟩
  · have := h.bf.set_ 0 (.int .i64 (i : Int)); simpa using this
  · exact (Array.getElem?_eq_some_iff.1 h.it).1
  · exact h.bel.trans (hu.below (fun k hk => by rw [hk]; exact h.lo.2.2.1) h.bel.size)
/-- The class of the word under way. -/
theorem WdSt.cl (h : WdSt w0 w sB oB fB aB itB s A cap out frm was pos) (i : Nat) : WdSt w0 (w.setCell ⟨aB, 0, none⟩ (.int .i64 (i : Int))) sB oB fB aB itB s A cap out frm i pos := by
  have hu : Upd (fun k => k = aB) w (w.setCell ⟨aB, 0, none⟩ (.int .i64 (i : Int))) := (Upd.refl (fun k => k = aB) w).setCell (p := ⟨aB, 0, none⟩) (.inl rfl) _
  obtain ⟨h1, h2, h3, h4, h5⟩ := h.of
  obtain ⟨g1, g2, g3, g4⟩ := h.itn
  have hr : ∀ k, (Value.slice A out.length cap).ownBlock = some k → ¬ k = aB := fun k hk e => by
    subst e
    exact own_blk_ne h.row h.ba (by decide) hk
  refine ⟨h.bs.upd hu (fun e => h5 e.symm), h.bo.upd hu h3, own_upd h.row hu hr, h.bf.upd hu h.fa, ?_, (hu.block itB ?_ g3).trans h.it, ?_, h.lo, h.fa, h.ne⟩
  · have := h.ba.set_ 0 (.int .i64 (i : Int)); simpa using this
  · exact (Array.getElem?_eq_some_iff.1 h.it).1
  · exact h.bel.trans (hu.below (fun k hk => by rw [hk]; exact h.lo.2.2.2.1) h.bel.size)
/-- One word more. -/
theorem WdSt.app (h : WdSt w0 w sB oB fB aB itB s A cap out frm was pos) (hu : Upd (fun k => (Value.slice A out.length cap).ownBlock = some k) w w5)
    (hown : w5.ownsRow w0.heap.size 9 1 (.slice A5 (out.length + 1) c5) (out.length + 1) (out.map Value.string ++ [.string t])) (hf : ∀ k, (Value.slice A5 (out.length + 1) c5).ownBlock = some k → (Value.slice A out.length cap).ownBlock = some k ∨ w.heap.size ≤ k) :
    WdSt w0 (w5.setCell ⟨oB, 0, none⟩ (.slice A5 (out.length + 1) c5)) sB oB fB aB itB s A5 c5 (out ++ [t]) frm was pos := by
  have hro : ¬ (Value.slice A out.length cap).ownBlock = some oB := fun hk => own_blk_ne h.row h.bo (by decide) hk
  have hrf : ¬ (Value.slice A out.length cap).ownBlock = some fB := fun hk => own_blk_ne h.row h.bf (by decide) hk
  have hra : ¬ (Value.slice A out.length cap).ownBlock = some aB := fun hk => own_blk_ne h.row h.ba (by decide) hk
  have hrs : ¬ (Value.slice A out.length cap).ownBlock = some sB := fun hk => h.ne _ hk rfl
  have hri : ¬ (Value.slice A out.length cap).ownBlock = some itB := fun hk => by
    obtain ⟨_, cur, hc⟩ := own_is h.row hk
    rw [h.it] at hc; cases hc
  have hu2 : Upd (fun k => k = oB) w5 (w5.setCell ⟨oB, 0, none⟩ (.slice A5 (out.length + 1) c5)) := (Upd.refl (fun k => k = oB) w5).setCell (p := ⟨oB, 0, none⟩) (.inl rfl) _
  obtain ⟨h1, h2, h3, h4, h5⟩ := h.of
  obtain ⟨g1, g2, g3, g4⟩ := h.itn
  have hit : itB < w.heap.size := (Array.getElem?_eq_some_iff.1 h.it).1
  have hbo5 : Blk w5 oB 93 #[.slice A out.length cap] := h.bo.upd hu hro
  have hlen : (out ++ [t]).length = out.length + 1 := by simp
  refine ⟨(h.bs.upd hu hrs).upd hu2 (fun e => h1 e.symm), ?_, ?_, (h.bf.upd hu hrf).upd hu2 (fun e => h2 e.symm), (h.ba.upd hu hra).upd hu2 (fun e => h3 e.symm), (hu2.block itB (Nat.lt_of_lt_of_le hit hu.size) g1).trans ((hu.block itB hit hri).trans h.it), ?_, h.lo, h.fa, ?_⟩
  · rw [hlen]
    have := hbo5.set_ 0 (.slice A5 (out.length + 1) c5); simpa using this
  · rw [hlen, List.map_append]
    exact own_upd hown hu2 (fun k hk e => by
      subst e
      exact own_blk_ne hown hbo5 (by decide) hk)
  · refine h.bel.trans (Below.trans ?_ (hu2.below (fun k hk => by rw [hk]; exact h.lo.2.1) (Nat.le_trans h.bel.size hu.size)))
    exact hu.below (fun k hk => (own_is h.row hk).1) h.bel.size
  · rw [hlen]
    intro k hk e
    rcases hf k hk with h9 | h9
    · exact h.ne k h9 e
    · have := h.bs.lt; omega
end
set_option maxRecDepth 100000 in
set_option maxHeartbeats 2000000 in
theorem end_any (w0 w : World) (sB oB fB aB itB : Nat) (s : ByteArray) (A : Option Addr) (cap : Nat) (out : List ByteArray) (frm was pos i : Nat) (h : WdSt w0 w sB oB fB aB itB s A cap out frm was pos) (hi : i ≤ s.size) (hs : s.size ≤ 4294967296) (ho : out.length ≤ 4294967296) :
    Calls Tryz.prog 97 #[.int .i64 (i : Int), .pointer (some ⟨aB, 0, none⟩), .pointer (some ⟨fB, 0, none⟩), .pointer (some ⟨oB, 0, none⟩), .pointer (some ⟨sB, 0, none⟩)] w fun e w' => e = .returned (.tuple #[]) ∧ ∃ A' cap', WdSt w0 w' sB oB fB aB itB s A' cap' (if was ≠ 1 ∧ frm < i then out ++ [s.extract frm i] else out) i was pos := by
  obtain ⟨i0, hi0, hz0, hz1, hz2⟩ := info_parts str_row
  have HS := Lib.hid h
  have ka : w.cell? ⟨aB, 0, none⟩ = some (.int .i64 (was : Int)) := h.ba.cell 0
  have kf : w.cell? ⟨fB, 0, none⟩ = some (.int .i64 (frm : Int)) := h.bf.cell 0
  have ff : w.frozen? ⟨fB, 0, none⟩ = false := h.bf.frozen 0
  have hsz := h.bel.size
  clear h
  by_cases h1 : was = 1
  · have n1 : ((was : Int) != 1) = false := by (simp <;> omega)
    have HM := Lib.hid (HS.out.mv i)
    rw [if_neg (by omega)]
    go_enter Tryz.func97, Tryz.ntmps97
    go_wp2_with fail
    go_end0
    exact ⟨rfl, _, _, HM.out⟩
  · have n1 : ((was : Int) != 1) = true := by (simp <;> omega)
    by_cases h2 : frm < i
    · have n2 : (frm : Int) < (i : Int) := by omega
      have i1 : (i : Int) ≤ (s.size : Int) := by omega
      have i2 : (frm : Int) ≤ (i : Int) := by omega
      have ko : w.cell? ⟨oB, 0, none⟩ = some (.slice A out.length cap) := HS.out.bo.cell 0
      have ks : w.cell? ⟨sB, 0, none⟩ = some (.string s) := HS.out.bs.cell 0
      have ko' : ∀ o, (w.drew.alloc o).cell? ⟨oB, 0, none⟩ = some (.slice A out.length cap) := fun o => (HS.out.bo.drew.alloc o).cell 0
      have ks' : ∀ o, (w.drew.alloc o).cell? ⟨sB, 0, none⟩ = some (.string s) := fun o => (HS.out.bs.drew.alloc o).cell 0
      have kf' : ∀ o, (w.drew.alloc o).cell? ⟨fB, 0, none⟩ = some (.int .i64 (frm : Int)) := fun o => (HS.out.bf.drew.alloc o).cell 0
      have ko2 : ∀ o, (w.alloc o).cell? ⟨oB, 0, none⟩ = some (.slice A out.length cap) := fun o => (HS.out.bo.alloc o).cell 0
      have ks2 : ∀ o, (w.alloc o).cell? ⟨sB, 0, none⟩ = some (.string s) := fun o => (HS.out.bs.alloc o).cell 0
      have kf2 : ∀ o, (w.alloc o).cell? ⟨fB, 0, none⟩ = some (.int .i64 (frm : Int)) := fun o => (HS.out.bf.alloc o).cell 0
      rw [if_pos ⟨h1, h2⟩]
      obtain ⟨n, hn⟩ : ∃ n, n = out.length := ⟨_, rfl⟩
      have HN := Lib.hid hn
      rw [← hn] at ko ko' ko2 ho
      have HR : Hid (w.ownsRow w0.heap.size 9 1 (.slice A n cap) n (out.map Value.string)) := Lib.hid (by rw [hn]; exact HS.out.row)
      clear hn
      go_enter Tryz.func97, Tryz.ntmps97
      go_wp2_with fail
      go_region_law ((refine step_append_any _ (by rfl) (.tmp 13) (.tmp 18) 93 (by rfl) w0.heap.size 9 i0 (.string ⟨#[]⟩) 1 16 Tryz.underlying93 hi0 hz0 hz1 hz2 rfl (by decide) (.slice A n cap) n (out.map Value.string) (by simp [Act.eval]) ((HR.out.drew).alloc _) (w.heap.size + 1) (some ⟨w.heap.size, 0, none⟩) 1 1 [.string (s.extract frm i)] (by simp [Act.eval]) (reads_one (Blk.new w.drew _ _) (by simp)) (fun u hu => by simp at hu; subst hu; rfl) (by unfold maxLen; omega) (by omega) (Nat.le_trans hsz (by simp)) ?_; intro v5 w5 hown5 hg5 hat5; have HOW5 := Lib.hid hown5; have HU5 : Hid (Upd (fun k => (Value.slice A n cap).ownBlock = some k) w w5) := Lib.hid (((Upd.refl _ w).drew.alloc _).grown hg5 (fun j hj => .inl hj)); have HO5 : Hid (Blk w5 oB 93 #[.slice A n cap]) := Lib.hid (by have := HS.out.bo; rw [← HN.out] at this; exact this.upd HU5.out (own_blk_ne HR.out this (by decide))); have k5 : w5.cell? ⟨oB, 0, none⟩ = some (.slice A n cap) := HO5.out.cell 0; have f5 : w5.frozen? ⟨oB, 0, none⟩ = false := HO5.out.frozen 0; have HA5 : Hid (∀ j, v5.ownBlock = some j → (Value.slice A n cap).ownBlock = some j ∨ w.heap.size ≤ j) := Lib.hid (fun j hj => by (rcases hat5 with h | h; (· rw [hj] at h; exact .inl h.symm); (· rw [hj] at h; injection h with h; rw [h]; right; simp))); obtain ⟨A5, c5, rfl⟩ := own_shape hown5; clear hown5 hg5 hat5))
      all_goals
        have happ := HS.out.app (w5 := w5) (t := s.extract frm i) (A5 := A5) (c5 := c5) (by rw [← HN.out]; exact HU5.out) (by rw [← HN.out]; exact HOW5.out) (fun k hk => by rw [← HN.out] at hk ⊢; exact HA5.out k hk)
        rw [← HN.out] at happ
        have HM := Lib.hid (happ.mv i)
        have kf5 : (w5.setCell ⟨oB, 0, none⟩ (.slice A5 (n + 1) c5)).cell? ⟨fB, 0, none⟩ = some (.int .i64 (frm : Int)) := happ.bf.cell 0
        have ff5 : (w5.setCell ⟨oB, 0, none⟩ (.slice A5 (n + 1) c5)).frozen? ⟨fB, 0, none⟩ = false := happ.bf.frozen 0
        clear happ
        go_wp2_with fail
        go_end0
        exact ⟨rfl, _, _, HM.out⟩
    · have n2 : ¬ (frm : Int) < (i : Int) := by omega
      have HM := Lib.hid (HS.out.mv i)
      rw [if_neg (by omega)]
      go_enter Tryz.func97, Tryz.ntmps97
      go_wp2_with fail
      go_end0
      exact ⟨rfl, _, _, HM.out⟩
end Go.Proofs.YtjkaigfpjebfbaaGreatDoor
