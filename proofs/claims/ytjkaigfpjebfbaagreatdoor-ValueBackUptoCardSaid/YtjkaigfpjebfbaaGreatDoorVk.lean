/- ValueKinds. -/
import Derived.Test.YtjkaigfpjebfbaaGreatDoorW4
import Derived.Test.YtjkaigfpjebfbaaGreatDoorW2
import Derived.Test.YtjkaigfpjebfbaaGreatDoorZB
namespace Go.Proofs.YtjkaigfpjebfbaaGreatDoor
open Go.RowKit
set_option linter.unusedVariables false


theorem kind_is {q : Nat} {x : Value} (h : VK q x) : ((kindB q).toList == [116, 101, 120, 116]) = decide (q = 1) ∧ ((kindB q).toList == [99, 111, 117, 110, 116]) = decide (q = 2) ∧ ((kindB q).toList == [121, 101, 115]) = decide (q = 3) ∧ ((kindB q).toList == [99, 108, 97, 117, 115, 101, 115]) = decide (q = 4) ∧ ((kindB q).toList == [97, 116, 111, 109, 115]) = decide (q = 5) ∧ ((kindB q).toList == [112, 114, 111, 118, 105, 100, 101, 115]) = decide (q = 6) := by
  rw [ByteArray.toList_eq]
  cases h <;> decide +kernel
theorem VK.shape {q : Nat} {x : Value} (h : VK q x) : x = .nilIface ∨ ∃ t u, x = .iface t u := by
  cases h with
  | none => exact .inl rfl
  | text s => exact .inr ⟨_, _, rfl⟩
  | count n => exact .inr ⟨_, _, rfl⟩
  | yes b => exact .inr ⟨_, _, rfl⟩
  | clauses A n c => exact .inr ⟨_, _, rfl⟩
  | atoms A n c => exact .inr ⟨_, _, rfl⟩
  | provides A n c => exact .inr ⟨_, _, rfl⟩
theorem MadeAt.below {w w' : World} {q : Nat} {x : Value} {s : ByteArray} {n : Int} {b : Bool} {vc va vp : Value} {C : List (List RA)} {A : List RA} {P : List RP} (h : MadeAt w q x s n b vc va vp C A P) (hb : Below w.heap.size w w') : MadeAt w' q x s n b vc va vp C A P :=
  ⟨h.v.below hb, h.t, h.c, h.y, h.cls.below hb, h.ats.below hb, h.prs.below hb, h.hc, h.hi, h.ha, h.hp⟩
/-- A value and the reference's, each in its block. -/
structure KB (w0 w : World) (B q : Nat) (x : Value) (s : ByteArray) (n : Int) (b : Bool) (vc va vp : Value) (C : List (List RA)) (A : List RA) (P : List RP) : Prop where
  a : Blk w B 30 #[x]
  r : Blk w (B + 1) 32 #[.string (kindB q), .string s, .int .i64 n, .bool b, vc, va, vp]
  m : MadeAt w q x s n b vc va vp C A P
  bl : Below w0.heap.size w0 w
theorem KB.later {w0 w w' : World} {B q : Nat} {x : Value} {s : ByteArray} {n : Int} {b : Bool} {vc va vp : Value} {C : List (List RA)} {A : List RA} {P : List RP} (h : KB w0 w B q x s n b vc va vp C A P) (hb : Below w.heap.size w w') : KB w0 w' B q x s n b vc va vp C A P :=
  ⟨h.a.below hb h.a.lt, h.r.below hb h.r.lt, h.m.below hb, h.bl.trans (hb.mono h.bl.size)⟩
theorem KB.new {w0 w : World} {q : Nat} {x : Value} {s : ByteArray} {n : Int} {b : Bool} {vc va vp : Value} {C : List (List RA)} {A : List RA} {P : List RP} (h : MadeAt w q x s n b vc va vp C A P) (hb : Below w0.heap.size w0 w) : KB w0 ((w.alloc (.cells #[x] 30)).alloc (.cells #[.string (kindB q), .string s, .int .i64 n, .bool b, vc, va, vp] 32)) w.heap.size q x s n b vc va vp C A P := by
  have h1 : (w.alloc (.cells #[x] 30)).heap.size = w.heap.size + 1 := by simp
  have hb2 : Below w.heap.size w ((w.alloc (.cells #[x] 30)).alloc (.cells #[.string (kindB q), .string s, .int .i64 n, .bool b, vc, va, vp] 32)) := ((Below.refl _ w).alloc (Nat.le_refl _) _).alloc (by simp) _
  refine ⟨(Blk.new w _ _).alloc _, ?_, h.below hb2, hb.trans (hb2.mono hb.size)⟩
  have := Blk.new (w.alloc (.cells #[x] 30)) 32 #[.string (kindB q), .string s, .int .i64 n, .bool b, vc, va, vp]
  rw [h1] at this
  exact this

end Go.Proofs.YtjkaigfpjebfbaaGreatDoor
