/- ValueMust's closures, through Try. -/
import Derived.Test.YtjkaigfpjebfbaaVk
import Derived.Test.YtjkaigfpjebfbaaW1
namespace Go.Proofs.Ytjkaigfpjebfbaa
open Go.RowKit
set_option linter.unusedVariables false

/-- What Try has handed back: nothing just where the kind is the one wanted. -/
def WrAt (w : World) (j q : Nat) (r : Option Addr) : Prop := (q = j ∧ r = none) ∨ (kindB j ≠ kindB q ∧ ∃ g, r = some ⟨g, 0, none⟩ ∧ Blk w g 44 #[.string (kindB j), .string (kindB q)])
theorem WrAt.upd {T : Nat → Prop} {w w' : World} {j q : Nat} {r : Option Addr} (h : WrAt w j q r) (hu : Upd T w w') (hT : ∀ g t cs, r = some ⟨g, 0, none⟩ → Blk w g t cs → t = 44 → ¬ T g) : WrAt w' j q r := by
  rcases h with ⟨a, b⟩ | ⟨a, g, b, c⟩
  · exact .inl ⟨a, b⟩
  · exact .inr ⟨a, g, b, c.upd hu (hT g _ _ b c rfl)⟩
theorem WrAt.below {w w' : World} {j q : Nat} {r : Option Addr} (h : WrAt w j q r) (hb : Below w.heap.size w w') : WrAt w' j q r := by
  rcases h with ⟨a, b⟩ | ⟨a, g, b, c⟩
  · exact .inl ⟨a, b⟩
  · exact .inr ⟨a, g, b, c.below hb c.lt⟩
theorem Try_ok (F : FuncId) (caps : Array Value) (w : World) (gq : Nat) (t : TypeId) (y val : Value) (hent : ∀ (a : Array Value) (W : World), (callFunc F a).run Try.prog W = .ok (.enter F a) W) (hq : Blk w gq t #[y])
    (hF : Calls Try.prog F caps (w.alloc (.cells #[.pointer none] 22)) fun e w' => e = .returned (.tuple #[]) ∧ ∃ w1, Below (w.alloc (.cells #[.pointer none] 22)).heap.size (w.alloc (.cells #[.pointer none] 22)) w1 ∧ w' = w1.setCell ⟨gq, 0, none⟩ val) :
    Calls Try.prog 7 #[.func (Fn.func F) #[] caps] w fun e w' => e = .returned (.pointer none) ∧ Blk w' gq t #[val] ∧ Upd (fun k => k = gq) w w' := by
  obtain ⟨W, hW⟩ : ∃ W, W = w.alloc (.cells #[.pointer none] 22) := ⟨_, rfl⟩
  have hz : W.heap.size = w.heap.size + 1 := by rw [hW]; simp
  have hk : Blk W w.heap.size 22 #[.pointer none] := by rw [hW]; exact Blk.new w _ _
  have hlt := hq.lt
  have hqW : Blk W gq t #[y] := by rw [hW]; exact hq.alloc _
  have hu : Upd (fun k => k = gq) w W := by rw [hW]; exact (Upd.refl _ w).alloc _
  refine (Try_ret F caps w (fun w' => ∃ w1, Below W.heap.size W w1 ∧ w' = w1.setCell ⟨gq, 0, none⟩ val) hent (by rw [hW]; exact hF) ?_).mono ?_
  · rintro w' ⟨w1, hb, rfl⟩
    have := (hk.below hb hk.lt).far (p := ⟨gq, 0, none⟩) (by show w.heap.size ≠ gq; omega) val
    exact ⟨this.cell 0, this.frozen 0⟩
  · rintro e w' ⟨rfl, w2, ⟨w1, hb, rfl⟩, rfl⟩
    refine ⟨rfl, ((hqW.below hb hqW.lt).set_ 0 val).far (p := ⟨w.heap.size, 0, none⟩) (by show gq ≠ w.heap.size; omega) _, ?_⟩
    exact ((hu.trans (Upd.of_below hb (fun k h1 h2 => by omega))).setCell (.inl rfl) _).setCell (.inr (Nat.le_refl _)) _

theorem ent_vm1 : ∀ (args : Array Value) (w : World), (callFunc 14 args).run Try.prog w = .ok (.enter 14 args) w := enters_of Try.func14 (by kernel_rfl) rfl
set_option maxRecDepth 100000 in
theorem vm1_ok (p q : Addr) (s : ByteArray) (y : Value) (w : World) (hp : w.cell? p = some (vText s)) (hq : w.cell? q = some y) (hz : w.frozen? q = false) :
    Calls Try.prog 14 #[.pointer (some p), .pointer (some q)] w fun e w' => e = .returned (.tuple #[]) ∧ ∃ w1, Below w.heap.size w w1 ∧ w' = w1.setCell q (.string s) := by
  have HM := Lib.hid (fun W => MustText_ok s W)
  have HQ := Lib.hid (World.block_lt_of_cell? w _ hq)
  unfold vText at HM hp
  go_enter Try.func14, Try.ntmps14
  go_wp2_with (go_at_call 15; refine (HM.out _).mono ?_; rintro e w1 ⟨rfl, hb⟩; have HB := Lib.hid hb; have k1 : w1.cell? q = some y := (hb.cell HQ.out).trans hq; have z1 : w1.frozen? q = false := (hb.frozen HQ.out).trans hz; clear hb)
  go_end0
  exact ⟨rfl, w1, HB.out, rfl⟩
set_option maxRecDepth 100000 in
theorem vm1_no (p q : Addr) {k : Nat} {x : Value} (h : VK k x) (hk : kindB 1 ≠ kindB k) (w : World) (hp : w.cell? p = some x) :
    Calls Try.prog 14 #[.pointer (some p), .pointer (some q)] w fun e w' => ∃ g, e = .panicked [{ v := .iface 22 (.pointer (some ⟨g, 0, none⟩)), recovered := false }] ∧ Hid (Blk w' g 44 #[.string (kindB 1), .string (kindB k)] ∧ w.heap.size ≤ g ∧ Below w.heap.size w w') := by
  have HM := Lib.hid (fun W => MustText_no h hk W)
  go_enter Try.func14, Try.ntmps14
  go_wp2_with (go_at_call 15; refine (HM.out _).mono ?_; rintro e w2 ⟨g, rfl, hq⟩)
  exact ⟨rfl, g, rfl, hq⟩
theorem try1_any {k : Nat} {x : Value} (gv gq : Nat) (val : Value) (w : World) (h : VK k x) (hval : (asText x).1 = val) (hv : Blk w gv 35 #[x]) (hq : Blk w gq 9 #[.string ⟨#[]⟩]) :
    Calls Try.prog 7 #[.func (Fn.func 14) #[] #[.pointer (some ⟨gv, 0, none⟩), .pointer (some ⟨gq, 0, none⟩)]] w fun e w' => ∃ r, e = .returned (.pointer r) ∧ Hid (Blk w' gq 9 #[val] ∧ WrAt w' 1 k r ∧ Upd (fun k => k = gq) w w') := by
  have no : kindB 1 ≠ kindB k → (asText x).1 = .string ⟨#[]⟩ → Calls Try.prog 7 #[.func (Fn.func 14) #[] #[.pointer (some ⟨gv, 0, none⟩), .pointer (some ⟨gq, 0, none⟩)]] w fun e w' => ∃ r, e = .returned (.pointer r) ∧ Hid (Blk w' gq 9 #[val] ∧ WrAt w' 1 k r ∧ Upd (fun k => k = gq) w w') := fun hk h0 =>
    (Try_must _ _ w _ _ ent_vm1 (fun W hW => vm1_no _ _ h hk W (by rw [hW]; exact (hv.alloc _).cell 0))).mono fun e w' hh => by
      obtain ⟨g, rfl, hq2⟩ := hh
      exact ⟨_, rfl, Lib.hid ⟨by rw [← hval, h0]; exact hq.below hq2.out.2 hq.lt, .inr ⟨hk, g, rfl, hq2.out.1⟩, Upd.of_below hq2.out.2 (fun k h1 h2 => by omega)⟩⟩
  cases h with

  | none => exact no (by decide +kernel) rfl
  | text s =>
    refine (Try_ok _ _ w gq 9 _ (.string s) ent_vm1 hq (vm1_ok _ _ s _ _ ((hv.alloc _).cell 0) ((hq.alloc _).cell 0) ((hq.alloc _).frozen 0))).mono ?_
    rintro e w' ⟨rfl, h1, h2⟩
    exact ⟨none, rfl, Lib.hid ⟨by rw [← hval]; exact h1, .inl ⟨rfl, rfl⟩, h2⟩⟩
  | count n => exact no (by decide +kernel) rfl
  | yes b => exact no (by decide +kernel) rfl
  | clauses A n c => exact no (by decide +kernel) rfl
  | atoms A n c => exact no (by decide +kernel) rfl
  | provides A n c => exact no (by decide +kernel) rfl
theorem ent_vm2 : ∀ (args : Array Value) (w : World), (callFunc 16 args).run Try.prog w = .ok (.enter 16 args) w := enters_of Try.func16 (by kernel_rfl) rfl
set_option maxRecDepth 100000 in
theorem vm2_ok (p q : Addr) (n : Int) (y : Value) (w : World) (hp : w.cell? p = some (vCount n)) (hq : w.cell? q = some y) (hz : w.frozen? q = false) :
    Calls Try.prog 16 #[.pointer (some p), .pointer (some q)] w fun e w' => e = .returned (.tuple #[]) ∧ ∃ w1, Below w.heap.size w w1 ∧ w' = w1.setCell q (.int .i64 n) := by
  have HM := Lib.hid (fun W => MustCount_ok n W)
  have HQ := Lib.hid (World.block_lt_of_cell? w _ hq)
  unfold vCount at HM hp
  go_enter Try.func16, Try.ntmps16
  go_wp2_with (go_at_call 17; refine (HM.out _).mono ?_; rintro e w1 ⟨rfl, hb⟩; have HB := Lib.hid hb; have k1 : w1.cell? q = some y := (hb.cell HQ.out).trans hq; have z1 : w1.frozen? q = false := (hb.frozen HQ.out).trans hz; clear hb)
  go_end0
  exact ⟨rfl, w1, HB.out, rfl⟩
set_option maxRecDepth 100000 in
theorem vm2_no (p q : Addr) {k : Nat} {x : Value} (h : VK k x) (hk : kindB 2 ≠ kindB k) (w : World) (hp : w.cell? p = some x) :
    Calls Try.prog 16 #[.pointer (some p), .pointer (some q)] w fun e w' => ∃ g, e = .panicked [{ v := .iface 22 (.pointer (some ⟨g, 0, none⟩)), recovered := false }] ∧ Hid (Blk w' g 44 #[.string (kindB 2), .string (kindB k)] ∧ w.heap.size ≤ g ∧ Below w.heap.size w w') := by
  have HM := Lib.hid (fun W => MustCount_no h hk W)
  go_enter Try.func16, Try.ntmps16
  go_wp2_with (go_at_call 17; refine (HM.out _).mono ?_; rintro e w2 ⟨g, rfl, hq⟩)
  exact ⟨rfl, g, rfl, hq⟩
theorem try2_any {k : Nat} {x : Value} (gv gq : Nat) (val : Value) (w : World) (h : VK k x) (hval : (asCount x).1 = val) (hv : Blk w gv 35 #[x]) (hq : Blk w gq 3 #[.int .i64 0]) :
    Calls Try.prog 7 #[.func (Fn.func 16) #[] #[.pointer (some ⟨gv, 0, none⟩), .pointer (some ⟨gq, 0, none⟩)]] w fun e w' => ∃ r, e = .returned (.pointer r) ∧ Hid (Blk w' gq 3 #[val] ∧ WrAt w' 2 k r ∧ Upd (fun k => k = gq) w w') := by
  have no : kindB 2 ≠ kindB k → (asCount x).1 = .int .i64 0 → Calls Try.prog 7 #[.func (Fn.func 16) #[] #[.pointer (some ⟨gv, 0, none⟩), .pointer (some ⟨gq, 0, none⟩)]] w fun e w' => ∃ r, e = .returned (.pointer r) ∧ Hid (Blk w' gq 3 #[val] ∧ WrAt w' 2 k r ∧ Upd (fun k => k = gq) w w') := fun hk h0 =>
    (Try_must _ _ w _ _ ent_vm2 (fun W hW => vm2_no _ _ h hk W (by rw [hW]; exact (hv.alloc _).cell 0))).mono fun e w' hh => by
      obtain ⟨g, rfl, hq2⟩ := hh
      exact ⟨_, rfl, Lib.hid ⟨by rw [← hval, h0]; exact hq.below hq2.out.2 hq.lt, .inr ⟨hk, g, rfl, hq2.out.1⟩, Upd.of_below hq2.out.2 (fun k h1 h2 => by omega)⟩⟩
  cases h with

  | none => exact no (by decide +kernel) rfl
  | text s => exact no (by decide +kernel) rfl
  | count n =>
    refine (Try_ok _ _ w gq 3 _ (.int .i64 n) ent_vm2 hq (vm2_ok _ _ n _ _ ((hv.alloc _).cell 0) ((hq.alloc _).cell 0) ((hq.alloc _).frozen 0))).mono ?_
    rintro e w' ⟨rfl, h1, h2⟩
    exact ⟨none, rfl, Lib.hid ⟨by rw [← hval]; exact h1, .inl ⟨rfl, rfl⟩, h2⟩⟩
  | yes b => exact no (by decide +kernel) rfl
  | clauses A n c => exact no (by decide +kernel) rfl
  | atoms A n c => exact no (by decide +kernel) rfl
  | provides A n c => exact no (by decide +kernel) rfl
theorem ent_vm3 : ∀ (args : Array Value) (w : World), (callFunc 18 args).run Try.prog w = .ok (.enter 18 args) w := enters_of Try.func18 (by kernel_rfl) rfl
set_option maxRecDepth 100000 in
theorem vm3_ok (p q : Addr) (b : Bool) (y : Value) (w : World) (hp : w.cell? p = some (vYes b)) (hq : w.cell? q = some y) (hz : w.frozen? q = false) :
    Calls Try.prog 18 #[.pointer (some p), .pointer (some q)] w fun e w' => e = .returned (.tuple #[]) ∧ ∃ w1, Below w.heap.size w w1 ∧ w' = w1.setCell q (.bool b) := by
  have HM := Lib.hid (fun W => MustYes_ok b W)
  have HQ := Lib.hid (World.block_lt_of_cell? w _ hq)
  unfold vYes at HM hp
  go_enter Try.func18, Try.ntmps18
  go_wp2_with (go_at_call 19; refine (HM.out _).mono ?_; rintro e w1 ⟨rfl, hb⟩; have HB := Lib.hid hb; have k1 : w1.cell? q = some y := (hb.cell HQ.out).trans hq; have z1 : w1.frozen? q = false := (hb.frozen HQ.out).trans hz; clear hb)
  go_end0
  exact ⟨rfl, w1, HB.out, rfl⟩
set_option maxRecDepth 100000 in
theorem vm3_no (p q : Addr) {k : Nat} {x : Value} (h : VK k x) (hk : kindB 3 ≠ kindB k) (w : World) (hp : w.cell? p = some x) :
    Calls Try.prog 18 #[.pointer (some p), .pointer (some q)] w fun e w' => ∃ g, e = .panicked [{ v := .iface 22 (.pointer (some ⟨g, 0, none⟩)), recovered := false }] ∧ Hid (Blk w' g 44 #[.string (kindB 3), .string (kindB k)] ∧ w.heap.size ≤ g ∧ Below w.heap.size w w') := by
  have HM := Lib.hid (fun W => MustYes_no h hk W)
  go_enter Try.func18, Try.ntmps18
  go_wp2_with (go_at_call 19; refine (HM.out _).mono ?_; rintro e w2 ⟨g, rfl, hq⟩)
  exact ⟨rfl, g, rfl, hq⟩
theorem try3_any {k : Nat} {x : Value} (gv gq : Nat) (val : Value) (w : World) (h : VK k x) (hval : (asYes x).1 = val) (hv : Blk w gv 35 #[x]) (hq : Blk w gq 4 #[.bool false]) :
    Calls Try.prog 7 #[.func (Fn.func 18) #[] #[.pointer (some ⟨gv, 0, none⟩), .pointer (some ⟨gq, 0, none⟩)]] w fun e w' => ∃ r, e = .returned (.pointer r) ∧ Hid (Blk w' gq 4 #[val] ∧ WrAt w' 3 k r ∧ Upd (fun k => k = gq) w w') := by
  have no : kindB 3 ≠ kindB k → (asYes x).1 = .bool false → Calls Try.prog 7 #[.func (Fn.func 18) #[] #[.pointer (some ⟨gv, 0, none⟩), .pointer (some ⟨gq, 0, none⟩)]] w fun e w' => ∃ r, e = .returned (.pointer r) ∧ Hid (Blk w' gq 4 #[val] ∧ WrAt w' 3 k r ∧ Upd (fun k => k = gq) w w') := fun hk h0 =>
    (Try_must _ _ w _ _ ent_vm3 (fun W hW => vm3_no _ _ h hk W (by rw [hW]; exact (hv.alloc _).cell 0))).mono fun e w' hh => by
      obtain ⟨g, rfl, hq2⟩ := hh
      exact ⟨_, rfl, Lib.hid ⟨by rw [← hval, h0]; exact hq.below hq2.out.2 hq.lt, .inr ⟨hk, g, rfl, hq2.out.1⟩, Upd.of_below hq2.out.2 (fun k h1 h2 => by omega)⟩⟩
  cases h with

  | none => exact no (by decide +kernel) rfl
  | text s => exact no (by decide +kernel) rfl
  | count n => exact no (by decide +kernel) rfl
  | yes b =>
    refine (Try_ok _ _ w gq 4 _ (.bool b) ent_vm3 hq (vm3_ok _ _ b _ _ ((hv.alloc _).cell 0) ((hq.alloc _).cell 0) ((hq.alloc _).frozen 0))).mono ?_
    rintro e w' ⟨rfl, h1, h2⟩
    exact ⟨none, rfl, Lib.hid ⟨by rw [← hval]; exact h1, .inl ⟨rfl, rfl⟩, h2⟩⟩
  | clauses A n c => exact no (by decide +kernel) rfl
  | atoms A n c => exact no (by decide +kernel) rfl
  | provides A n c => exact no (by decide +kernel) rfl
set_option maxRecDepth 100000 in
set_option maxHeartbeats 1000000 in
theorem Error_quiet (g : Nat) (want got : ByteArray) (w : World) (k0 : w.cell? ⟨g, 0, none⟩ = some (.string want)) (k1 : w.cell? ⟨g, 1, none⟩ = some (.string got)) (h1 : want.size ≤ 1048576) (h2 : got.size ≤ 1048576) :
    Calls Try.prog 9 #[.pointer (some ⟨g, 0, none⟩)] w fun e w' => e = .returned (.string (⟨#[119, 97, 110, 116, 32]⟩ ++ want ++ ⟨#[44, 32, 103, 111, 116, 32]⟩ ++ got)) ∧ ∃ m, w' = w.drewN m := by
  go_enter Try.func9, Try.ntmps9
  go_wp2_with fail
  go_quiet (fail)
  go_wp2_with fail
  go_ret
  exact ⟨rfl, _, rfl⟩
end Go.Proofs.Ytjkaigfpjebfbaa
