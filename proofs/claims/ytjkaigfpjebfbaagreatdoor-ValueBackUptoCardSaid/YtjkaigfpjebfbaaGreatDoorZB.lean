/- Put together: chandlerref4's reader: white, peek, word; chandlerref4's reader: atom; chandlerref4.Relation; chandlerref4.AtomList, ProvideList; Rows of atoms, of provides, of clauses, as data; SameAtoms, SameProvides, SameClauses; Relation: names and versions are words; Relation: what the readers hand back, as data; an atom's text; light. -/
import Derived.Test.YtjkaigfpjebfbaaGreatDoorRk
import Derived.Test.YtjkaigfpjebfbaaGreatDoorRs
import Derived.StillTailTactics
import Derived.Laws.StructEq
import Derived.Lib.Join
/- chandlerref4's reader: white, peek, word. -/
namespace Go.Proofs.YtjkaigfpjebfbaaGreatDoor
open Go.RowKit
set_option linter.unusedVariables false

theorem wh_N (b : UInt8) : Rl.wh b = (decide (b.toNat = 32) || decide (b.toNat = 9)) := by
  unfold Rl.wh
  rw [Rl.cls_N]
  unfold clsN
  by_cases h : b.toNat = 32 ∨ b.toNat = 9
  · rw [if_pos h]
    rcases h with h | h <;> simp [h]
  · rw [if_neg h]
    have h1 : ¬ b.toNat = 32 := fun e => h (.inl e)
    have h2 : ¬ b.toNat = 9 := fun e => h (.inr e)
    rw [decide_eq_false h1, decide_eq_false h2]
    split
    · rfl
    · split <;> rfl
theorem tob_size (l : Rl.Bs) : (Rl.tob l).size = l.length := rfl
theorem tob_drop (l : Rl.Bs) (i : Nat) : (Rl.tob l).extract i (Rl.tob l).size = Rl.tob (l.drop i) := by
  rw [Rl.ext_cur]
  unfold Rl.cur
  rw [Rl.bl_tob, tob_size, List.take_length]
theorem tob_take (l : Rl.Bs) (i : Nat) : (Rl.tob l).extract 0 i = Rl.tob (l.take i) := by
  rw [Rl.ext_cur]
  unfold Rl.cur
  rw [Rl.bl_tob, List.drop_zero]
theorem tob_at (l : Rl.Bs) (i : Nat) (h : i < l.length) : ((Rl.tob l)[i]'h) = l[i] := rfl
def hd0 : Rl.Bs → Int
  | [] => 0
  | b :: _ => (b.toNat : Int)
def restLen (w : World) (q : Nat) : Nat := match w.cell? ⟨q, 0, none⟩ with
  | some (.string s) => s.size
  | _ => 0
def marksS : ByteArray := ⟨#[44, 124, 40, 41]⟩
theorem ink_N (b : UInt8) : Rl.ink b = (!Rl.wh b && decide (idx marksS b.toNat < 0)) := by
  have h1 : decide (idx marksS b.toNat < 0) = !(decide (0 ≤ idx marksS b.toNat)) := by
    by_cases h : 0 ≤ idx marksS b.toNat
    · rw [decide_eq_true h, decide_eq_false (by omega)]; rfl
    · rw [decide_eq_false h, decide_eq_true (by omega)]; rfl
  have h2 : decide (0 ≤ idx marksS b.toNat) = (decide (b.toNat = 44) || decide (b.toNat = 124) || decide (b.toNat = 40) || decide (b.toNat = 41)) := by
    rw [idx_dec, Bool.eq_iff_iff, List.any_eq_true]
    simp only [Bool.or_eq_true, decide_eq_true_eq, List.mem_range, beq_iff_eq]
    constructor
    · rintro ⟨j, hj, he⟩
      have : j = 0 ∨ j = 1 ∨ j = 2 ∨ j = 3 := by have : marksS.size = 4 := rfl; omega
      rw [← he]
      rcases this with rfl | rfl | rfl | rfl <;> decide
    · rintro (((h | h) | h) | h) <;> rw [h]
      · exact ⟨0, by decide, rfl⟩
      · exact ⟨1, by decide, rfl⟩
      · exact ⟨2, by decide, rfl⟩
      · exact ⟨3, by decide, rfl⟩
  rw [h1, h2, wh_N]
  unfold Rl.ink
  rw [Rl.cls_N]
  unfold clsN
  generalize b.toNat = c
  by_cases a : c = 32 ∨ c = 9
  · rw [if_pos a]; rcases a with rfl | rfl <;> rfl
  · rw [if_neg a]
    by_cases a2 : c = 40 ∨ c = 41 ∨ c = 44 ∨ c = 124
    · rw [if_pos a2]; rcases a2 with rfl | rfl | rfl | rfl <;> rfl
    · rw [if_neg a2, decide_eq_false (show ¬ c = 32 by omega), decide_eq_false (show ¬ c = 9 by omega), decide_eq_false (show ¬ c = 44 by omega), decide_eq_false (show ¬ c = 124 by omega), decide_eq_false (show ¬ c = 40 by omega), decide_eq_false (show ¬ c = 41 by omega)]
      split <;> rfl
end Go.Proofs.YtjkaigfpjebfbaaGreatDoor
/- chandlerref4's reader: atom. -/
namespace Go.Proofs.YtjkaigfpjebfbaaGreatDoor
open Go.RowKit
set_option linter.unusedVariables false

/-- The last relation below i whose sign a text begins with. -/
def rlU (m : Rl.Bs) : Nat → Nat
  | 0 => 0
  | i + 1 => if i ≠ 0 ∧ m.take (Rl.sgn i).length = Rl.sgn i then i else rlU m i
theorem rlU_six (m : Rl.Bs) : rlU m 6 = Rl.relP m := by
  have e : rlU m 6 = if m.take 2 = [62, 62] then 5 else if m.take 2 = [62, 61] then 4 else if m.take 1 = [61] then 3 else if m.take 2 = [60, 61] then 2 else if m.take 2 = [60, 60] then 1 else 0 := by
    simp [rlU, Rl.sgn]
  rw [e]
  unfold Rl.relP
  cases m with
  | nil => simp
  | cons a r =>
    cases r with
    | nil => simp
    | cons b r =>
      simp only [List.take_succ_cons, List.take_zero, List.cons.injEq, and_true]
      by_cases h1 : a = 60
      · subst h1
        by_cases h2 : b = 60
        · subst h2; simp
        · by_cases h3 : b = 61
          · subst h3; simp
          · simp [h2, h3]
      · by_cases h2 : a = 61
        · subst h2; simp
        · by_cases h3 : a = 62
          · subst h3
            by_cases h4 : b = 61
            · subst h4; simp
            · simp [h4]
          · simp [h1, h2, h3]
theorem results_one {fn : Func} {p : Tmp} (h : fn.results = #[.cell p 87]) (tmps : Array Value) (w : World) (g : Nat) (cs : Array Value) (hp : tmps.getD p undef = .pointer (some ⟨g, 0, none⟩)) (hg : Blk w g 87 cs) (hs : cs.size = 3) :
    (results fn tmps).run Tryz.prog w = .ok (.agg cs) w := by
  have hp' : tmps[p]?.getD undef = .pointer (some ⟨g, 0, none⟩) := by simpa using hp
  have hl := run_loadVar_row (P := Tryz.prog) w g 87 87 cs (0, 0) _ hg Tryz.underlying87 rfl (by rw [atom_size, hs])
  simp [results, h, hp', asAddr, hl]
theorem ret_one {fn : Func} {p : Tmp} {R : Ending → World → Prop} {a : Act} {w : World} (h : fn.results = #[.cell p 87]) (g : Nat) (cs : Array Value) (hg : Blk w g 87 cs) (hs : cs.size = 3)
    (hp : a.tmps.getD p undef = .pointer (some ⟨g, 0, none⟩)) (hd : a.defers = []) (hR : R (.returned (.agg cs)) w) : bodyPost Tryz.prog fn R .ret a w :=
  bodyPost_ret (results_one h _ w g cs hp hg hs) hd hR
theorem upd3 {w w5 : World} {q : Nat} {x y z : Value} (h : Upd (fun k => k = q) w w5) : Upd (fun k => k = q) w (((w5.setCell ⟨w.heap.size, 0, none⟩ x).setCell ⟨w.heap.size, 1, none⟩ y).setCell ⟨w.heap.size, 2, none⟩ z) :=
  ((h.setCell (p := ⟨w.heap.size, 0, none⟩) (.inr (Nat.le_refl _)) x).setCell (p := ⟨w.heap.size, 1, none⟩) (.inr (Nat.le_refl _)) y).setCell (p := ⟨w.heap.size, 2, none⟩) (.inr (Nat.le_refl _)) z
end Go.Proofs.YtjkaigfpjebfbaaGreatDoor
/- chandlerref4.Relation. -/
namespace Go.Proofs.YtjkaigfpjebfbaaGreatDoor
open Go.RowKit
set_option linter.unusedVariables false

theorem atomR_len {l l' : Rl.Bs} {a : Rl.Atm} (h : Rl.atomR nmL verL l = some (a, l')) : l'.length ≤ l.length := by
  have s1 : ∀ x : Rl.Bs, (Rl.skw x).length ≤ x.length := fun x => List.IsSuffix.length_le (List.dropWhile_suffix _)
  have s2 : ∀ x : Rl.Bs, (x.dropWhile Rl.ink).length ≤ x.length := fun x => List.IsSuffix.length_le (List.dropWhile_suffix _)
  unfold Rl.atomR at h
  have h0 := s1 l
  have h1 := s2 (Rl.skw l)
  have h2 := s1 ((Rl.skw l).dropWhile Rl.ink)
  split at h
  · cases hz : Rl.skw ((Rl.skw l).dropWhile Rl.ink) with
    | nil =>
      rw [hz] at h
      injection h with h
      injection h with _ h
      rw [← h]; exact Nat.zero_le _
    | cons b r =>
      rw [hz] at h h2
      simp only at h
      have h3 : (b :: r).length = r.length + 1 := rfl
      split at h
      · unfold Rl.parR at h
        have h4 := s1 r
        have h5 : ((Rl.skw r).drop (Rl.sgn (Rl.relP (Rl.skw r))).length).length ≤ (Rl.skw r).length := by rw [List.length_drop]; omega
        have h6 := s1 ((Rl.skw r).drop (Rl.sgn (Rl.relP (Rl.skw r))).length)
        have h7 := s2 (Rl.skw ((Rl.skw r).drop (Rl.sgn (Rl.relP (Rl.skw r))).length))
        have h8 := s1 ((Rl.skw ((Rl.skw r).drop (Rl.sgn (Rl.relP (Rl.skw r))).length)).dropWhile Rl.ink)
        split at h
        · cases h
        · next o k v q he =>
          injection h with h
          injection h with _ h
          subst h
          split at he
          · cases he
          · cases hy : Rl.skw ((Rl.skw ((Rl.skw r).drop (Rl.sgn (Rl.relP (Rl.skw r))).length)).dropWhile Rl.ink) with
            | nil => rw [hy] at he; cases he
            | cons c q' =>
              rw [hy] at he h8
              simp only at he
              split at he
              · injection he with he
                injection he with _ he
                injection he with _ he
                subst he
                have : (c :: q').length = q'.length + 1 := rfl
                omega
              · cases he
      · injection h with h
        injection h with _ h
        rw [← h]
        omega
  · cases h
theorem allR_eq (mf : Rl.Atm → Bool) (one : Bool) (l : Rl.Bs) : Rl.allR nmL verL mf one l = if Rl.skw l = [] then .ok [] else Rl.parseR nmL verL mf one 12 (Rl.skw l) [] := by
  unfold Rl.allR
  cases Rl.skw l with
  | nil => rfl
  | cons b r => rw [if_neg (by simp)]
theorem hd0_is {l : Rl.Bs} {c : UInt8} (hc : c ≠ 0) : hd0 l = (c.toNat : Int) ↔ ∃ r, l = c :: r := by
  cases l with
  | nil =>
    have h0 : c.toNat ≠ 0 := fun e => hc (UInt8.toNat_inj.1 e)
    show (0 : Int) = (c.toNat : Int) ↔ _
    constructor
    · intro h; omega
    · rintro ⟨r, h⟩; cases h
  | cons b r =>
    show ((b.toNat : Nat) : Int) = (c.toNat : Int) ↔ _
    constructor
    · intro h; exact ⟨r, by rw [UInt8.toNat_inj.1 (show b.toNat = c.toNat by omega)]⟩
    · rintro ⟨r', h⟩; injection h with h _; rw [h]
theorem clauseR_step {mf : Rl.Atm → Bool} {d : Nat} {l l1 : Rl.Bs} {a : Rl.Atm} {c : List Rl.Atm} (h : Rl.atomR nmL verL l = some (a, l1)) (hm : mf a = true) : Rl.clauseR nmL verL mf false (d + 1) l c = if hd0 (Rl.skw l1) = 124 then Rl.clauseR nmL verL mf false d (Rl.skw l1).tail (c ++ [a]) else .ok (c ++ [a], Rl.skw l1) := by
  show (match Rl.atomR nmL verL l with | none => _ | some (a, l1) => _) = _
  rw [h]
  simp only [hm, if_true, Bool.false_eq_true, if_false]
  cases hz : Rl.skw l1 with
  | nil => rw [if_neg (by decide)]
  | cons b r =>
    by_cases hb : b = 124
    · subst hb; rw [if_pos (show hd0 (124 :: r) = 124 from rfl)]; rfl
    · simp only [if_neg hb]
      rw [if_neg (fun h9 => hb (by obtain ⟨r', e⟩ := (hd0_is (c := 124) (by decide)).1 h9; injection e))]
theorem parseR_step {mf : Rl.Atm → Bool} {one : Bool} {d : Nat} {l l1 : Rl.Bs} {c : List Rl.Atm} {L : List (List Rl.Atm)} (h : Rl.clauseR nmL verL mf one 6 l [] = .ok (c, l1)) : Rl.parseR nmL verL mf one (d + 1) l L = if Rl.skw l1 = [] then .ok (L ++ [c]) else if hd0 (Rl.skw l1) = 44 then Rl.parseR nmL verL mf one d (Rl.skw l1).tail (L ++ [c]) else .form := by
  show (match Rl.clauseR nmL verL mf one 6 l [] with | .many => _ | .form => _ | .ok (c, l1) => _) = _
  rw [h]
  simp only
  cases hz : Rl.skw l1 with
  | nil => rfl
  | cons b r =>
    rw [if_neg (by simp)]
    by_cases hb : b = 44
    · subst hb; rw [if_pos (show hd0 (44 :: r) = 44 from rfl)]; rfl
    · simp only [if_neg hb]
      rw [if_neg (fun h9 => hb (by obtain ⟨r', e⟩ := (hd0_is (c := 44) (by decide)).1 h9; injection e))]
theorem skw_len (x : Rl.Bs) : (Rl.skw x).length ≤ x.length := List.IsSuffix.length_le (List.dropWhile_suffix _)
theorem str_tob (l : Rl.Bs) : (Rl.tob l).toList.isEmpty = l.isEmpty := by
  rw [ByteArray.toList_eq]; rfl
end Go.Proofs.YtjkaigfpjebfbaaGreatDoor
/- chandlerref4.AtomList, ProvideList. -/
namespace Go.Proofs.YtjkaigfpjebfbaaGreatDoor
open Go.RowKit
set_option linter.unusedVariables false

theorem clauseR_one {mf : Rl.Atm → Bool} {l l1 : Rl.Bs} {a : Rl.Atm} (h : Rl.atomR nmL verL l = some (a, l1)) : Rl.clauseR nmL verL mf true 6 l [] = if mf a then .ok ([a], l1) else .form := by
  show (match Rl.atomR nmL verL l with | none => _ | some (a, l1) => _) = _
  rw [h]; rfl
theorem clauseR_none {mf : Rl.Atm → Bool} {one : Bool} {l : Rl.Bs} (h : Rl.atomR nmL verL l = none) : Rl.clauseR nmL verL mf one 6 l [] = .form := by
  show (match Rl.atomR nmL verL l with | none => _ | some (a, l1) => _) = _
  rw [h]
theorem parseR_form {mf : Rl.Atm → Bool} {one : Bool} {d : Nat} {l : Rl.Bs} {L : List (List Rl.Atm)} (h : Rl.clauseR nmL verL mf one 6 l [] = .form) : Rl.parseR nmL verL mf one (d + 1) l L = .form := by
  show (match Rl.clauseR nmL verL mf one 6 l [] with | .many => _ | .form => _ | .ok (c, l1) => _) = _
  rw [h]
theorem catA_add (L : List (List Rl.Atm)) (a : Rl.Atm) : catA (L ++ [[a]]).flatten = catA L.flatten ++ atC a := by
  unfold catA; simp
theorem catP_add (L : List (List Rl.Atm)) (a : Rl.Atm) : catP (L ++ [[a]]).flatten = catP L.flatten ++ prC a := by
  unfold catP; simp
/-- What a list's reading hands back: t the cells' type, k how many cells an element has, f an atom's cells. -/
def LstRes (t : TypeId) (k : Nat) (f : List Rl.Atm → List Value) (w w' : World) (e : Ending) : Rl.Rd (List (List Rl.Atm)) → Prop
  | .many => e = .returned (.tuple #[.slice none 0 0, .int .i64 12])
  | .form => e = .returned (.tuple #[.slice none 0 0, .int .i64 3])
  | .ok L => ∃ A c, e = .returned (.tuple #[.slice A L.length c, .int .i64 0]) ∧ w'.ownsRow w.heap.size t k (.slice A L.length c) L.length (f L.flatten)
theorem LstRes.mk {t : TypeId} {k : Nat} {f : List Rl.Atm → List Value} {w w' : World} {m c : Nat} {A : Option Addr} {e : Ending} {L : List (List Rl.Atm)} (he : e = .returned (.tuple #[.slice A m c, .int .i64 0])) (hm : L.length = m) (ho : w'.ownsRow w.heap.size t k (.slice A m c) m (f L.flatten)) : LstRes t k f w w' e (.ok L) := by
  subst hm
  exact ⟨A, c, he, ho⟩
theorem LstRes.out {t : TypeId} {k : Nat} {f : List Rl.Atm → List Value} {w w' : World} {e : Ending} {r : Rl.Rd (List (List Rl.Atm))} (h0 : f [] = []) (h : LstRes t k f w w' e r) : ∃ A c, e = .returned (.tuple #[.slice A (okv r).length c, .int .i64 (eno r)]) ∧ w'.ownsRow w.heap.size t k (.slice A (okv r).length c) (okv r).length (f (okv r).flatten) := by
  cases r with
  | many => exact ⟨none, 0, h, by show World.ownsRow _ _ _ _ _ 0 (f []); rw [h0]; exact World.ownsRow_nil _ _ _ _⟩
  | form => exact ⟨none, 0, h, by show World.ownsRow _ _ _ _ _ 0 (f []); rw [h0]; exact World.ownsRow_nil _ _ _ _⟩
  | ok L => exact h
end Go.Proofs.YtjkaigfpjebfbaaGreatDoor
/- Rows of atoms, of provides, of clauses, as data; SameAtoms, SameProvides, SameClauses. -/
namespace Go.Proofs.YtjkaigfpjebfbaaGreatDoor
open Go.RowKit Go.Sort
set_option linter.unusedVariables false

/-- An atom as it may come: any name, any number, any version. -/
structure RA where
  n : ByteArray
  r : Int
  v : ByteArray
deriving DecidableEq
theorem RA.ext' {x y : RA} (h1 : x.n = y.n) (h2 : x.r = y.r) (h3 : x.v = y.v) : x = y := by cases x; cases y; simp_all
theorem toList_inj {a b : ByteArray} (h : a.toList = b.toList) : a = b := by
  rw [ByteArray.toList_eq, ByteArray.toList_eq] at h
  obtain ⟨⟨x⟩⟩ := a
  obtain ⟨⟨y⟩⟩ := b
  simp at h
  rw [h]
theorem eq_atoms (x y : RA) (w : World) : (Op.equalIn 10000 87 (.agg #[.string x.n, .int .i64 x.r, .string x.v]) (.agg #[.string y.n, .int .i64 y.r, .string y.v])).run Tryz.prog w = .ok (decide (x = y)) w := by
  have u3 := Tryz.underlying3
  have a3 := Tryz.isAgg3
  have z3 := Tryz.sizeOf3
  have u9 := Tryz.underlying9
  have a9 := Tryz.isAgg9
  have z9 := Tryz.sizeOf9
  have hS : Tryz.prog.underlying 87 = some (.struct (Tryz.prog.fieldsOf 87)) := by kernel_rfl
  have hp : Tryz.prog.stoodInHeld 87 = false := by kernel_rfl
  rw [show (10000 : Nat) = 9999 + 1 from rfl, run_equalIn_agg w 9999 87 _ _ hS hp]
  simp only [Program.fieldsOf, Tryz.underlying87]
  go_simp
  by_cases h1 : x.n = y.n
  · by_cases h2 : x.r = y.r
    · by_cases h3 : x.v = y.v
      · have e := RA.ext' h1 h2 h3
        subst e
        simp
      · have e : x ≠ y := fun e => h3 (by rw [e])
        have h4 : ¬ x.v.toList = y.v.toList := fun e => h3 (toList_inj e)
        simp [h1, h2, h4, e]
    · have e : x ≠ y := fun e => h2 (by rw [e])
      simp [h1, h2, e]
  · have e : x ≠ y := fun e => h1 (by rw [e])
    have h4 : ¬ x.n.toList = y.n.toList := fun e => h1 (toList_inj e)
    simp [h4, e]
theorem neq_atoms (x y : RA) (w : World) : (binOp .neq 87 (.agg #[.string x.n, .int .i64 x.r, .string x.v]) (.agg #[.string y.n, .int .i64 y.r, .string y.v])).run Tryz.prog w = .ok (.bool (!decide (x = y))) w := by
  rw [run_neq_struct, eq_atoms]; rfl
theorem eql_atoms (x y : RA) (w : World) : (binOp .eql 87 (.agg #[.string x.n, .int .i64 x.r, .string x.v]) (.agg #[.string y.n, .int .i64 y.r, .string y.v])).run Tryz.prog w = .ok (.bool (decide (x = y))) w := by
  rw [run_eql_struct, eq_atoms]; rfl
/-- A provide as it may come. -/
structure RP where
  n : ByteArray
  v : ByteArray
deriving DecidableEq
theorem RP.ext' {x y : RP} (h1 : x.n = y.n) (h3 : x.v = y.v) : x = y := by cases x; cases y; simp_all
theorem neq_provs (x y : RP) (w : World) : (binOp .neq 90 (.agg #[.string x.n, .string x.v]) (.agg #[.string y.n, .string y.v])).run Tryz.prog w = .ok (.bool (!decide (x = y))) w := by
  have u9 := Tryz.underlying9
  have a9 := Tryz.isAgg9
  have z9 := Tryz.sizeOf9
  have hS : Tryz.prog.underlying 90 = some (.struct (Tryz.prog.fieldsOf 90)) := by kernel_rfl
  have hp : Tryz.prog.stoodInHeld 90 = false := by kernel_rfl
  rw [run_neq_struct, show (10000 : Nat) = 9999 + 1 from rfl, run_equalIn_agg w 9999 90 _ _ hS hp]
  simp only [Program.fieldsOf, Tryz.underlying90]
  go_simp
  by_cases h1 : x.n = y.n
  · by_cases h3 : x.v = y.v
    · have e := RP.ext' h1 h3
      subst e
      simp
    · have e : x ≠ y := fun e => h3 (by rw [e])
      have h4 : ¬ x.v.toList = y.v.toList := fun e => h3 (toList_inj e)
      simp [h1, h4, e]
  · have e : x ≠ y := fun e => h1 (by rw [e])
    have h4 : ¬ x.n.toList = y.n.toList := fun e => h1 (toList_inj e)
    simp [h4, e]
/-- A row of atoms. -/
def AtsAt (w : World) (v : Value) (L : List RA) : Prop :=
  ∃ A c, v = .slice A L.length c ∧ L.length ≤ c ∧ ∀ j (h : j < L.length), ∃ g o, A = some ⟨g, o, none⟩ ∧ w.cell? ⟨g, o + j * 3, none⟩ = some (.string L[j].n) ∧ w.cell? ⟨g, o + j * 3 + 1, none⟩ = some (.int .i64 L[j].r) ∧ w.cell? ⟨g, o + j * 3 + 2, none⟩ = some (.string L[j].v)
theorem AtsAt.nil (w : World) : AtsAt w (.slice none 0 0) [] := ⟨none, 0, rfl, Nat.le_refl _, fun j h => absurd h (by simp)⟩
theorem AtsAt.below {w w' : World} {v : Value} {L : List RA} (h : AtsAt w v L) (hb : Below w.heap.size w w') : AtsAt w' v L := by
  obtain ⟨A, cap, rfl, h1, h3⟩ := h
  refine ⟨A, cap, rfl, h1, fun j hj => ?_⟩
  obtain ⟨g, o, rfl, k1, k2, k3⟩ := h3 j hj
  exact ⟨g, o, rfl, (hb.cell (World.block_lt_of_cell? w _ k1)).trans k1, (hb.cell (World.block_lt_of_cell? w _ k2)).trans k2, (hb.cell (World.block_lt_of_cell? w _ k3)).trans k3⟩
/-- A row of provides. -/
def PrsAt (w : World) (v : Value) (L : List RP) : Prop :=
  ∃ A c, v = .slice A L.length c ∧ L.length ≤ c ∧ ∀ j (h : j < L.length), ∃ g o, A = some ⟨g, o, none⟩ ∧ w.cell? ⟨g, o + j * 2, none⟩ = some (.string L[j].n) ∧ w.cell? ⟨g, o + j * 2 + 1, none⟩ = some (.string L[j].v)
theorem PrsAt.nil (w : World) : PrsAt w (.slice none 0 0) [] := ⟨none, 0, rfl, Nat.le_refl _, fun j h => absurd h (by simp)⟩
theorem PrsAt.below {w w' : World} {v : Value} {L : List RP} (h : PrsAt w v L) (hb : Below w.heap.size w w') : PrsAt w' v L := by
  obtain ⟨A, cap, rfl, h1, h3⟩ := h
  refine ⟨A, cap, rfl, h1, fun j hj => ?_⟩
  obtain ⟨g, o, rfl, k1, k3⟩ := h3 j hj
  exact ⟨g, o, rfl, (hb.cell (World.block_lt_of_cell? w _ k1)).trans k1, (hb.cell (World.block_lt_of_cell? w _ k3)).trans k3⟩
/-- A row of clauses. -/
def ClsAt (w : World) (v : Value) (L : List (List RA)) : Prop :=
  ∃ A c, v = .slice A L.length c ∧ L.length ≤ c ∧ ∀ j (h : j < L.length), ∃ g o V, A = some ⟨g, o, none⟩ ∧ w.cell? ⟨g, o + j, none⟩ = some V ∧ AtsAt w V L[j]
theorem ClsAt.nil (w : World) : ClsAt w (.slice none 0 0) [] := ⟨none, 0, rfl, Nat.le_refl _, fun j h => absurd h (by simp)⟩
theorem ClsAt.below {w w' : World} {v : Value} {L : List (List RA)} (h : ClsAt w v L) (hb : Below w.heap.size w w') : ClsAt w' v L := by
  obtain ⟨A, cap, rfl, h1, h3⟩ := h
  refine ⟨A, cap, rfl, h1, fun j hj => ?_⟩
  obtain ⟨g, o, V, rfl, k1, k3⟩ := h3 j hj
  exact ⟨g, o, V, rfl, (hb.cell (World.block_lt_of_cell? w _ k1)).trans k1, k3.below hb⟩
theorem below_drewN (w : World) (m : Nat) : Below w.heap.size w (w.drewN m) := ⟨rfl, rfl, rfl, Nat.le_refl _, fun _ _ => rfl⟩
theorem drewN_add {w wr : World} (h : ∃ m, wr = w.drewN m) (n : Nat) : ∃ m, wr.drewN n = w.drewN m := by
  obtain ⟨m, hm⟩ := h
  exact ⟨m + n, by rw [hm, World.drewN_drewN]⟩
end Go.Proofs.YtjkaigfpjebfbaaGreatDoor
/- Relation: names and versions are words. -/
namespace Go.Proofs.YtjkaigfpjebfbaaGreatDoor
open Go.RowKit
set_option linter.unusedVariables false

/-- A byte of a word, as names and versions have them. -/
def WdP (b : Nat) : Prop := (97 ≤ b ∧ b ≤ 122) ∨ (65 ≤ b ∧ b ≤ 90) ∨ (48 ≤ b ∧ b ≤ 57) ∨ b = 43 ∨ b = 45 ∨ b = 46 ∨ b = 126 ∨ b = 58
theorem cls_wd {b : UInt8} (h : WdP b.toNat) : Rl.cls b = 0 := by
  have e : ∀ n : UInt8, b = n → b.toNat = n.toNat := fun n h => by rw [h]
  unfold WdP at h
  unfold Rl.cls
  rw [if_neg, if_neg, if_neg]
  · rintro (h9 | h9 | h9) <;> (have := e _ h9; simp at this; omega)
  · rintro (h9 | h9 | h9 | h9) <;> (have := e _ h9; simp at this; omega)
  · rintro (h9 | h9) <;> (have := e _ h9; simp at this; omega)
theorem byteAt_ext (s : ByteArray) (a b j : Nat) (hb : b ≤ s.size) (hj : a + j < b) : byteAt (s.extract a b) j = byteAt s (a + j) := by
  have h1 : j < (s.extract a b).size := by rw [ByteArray.size_extract]; omega
  rw [byteAt_get _ _ h1, byteAt_get s (a + j) (by omega), ByteArray.getElem_extract]
theorem allF_all (p : Nat → Bool) (s : ByteArray) : ∀ (f i : Nat), s.size ≤ i + f → allF p s f i = true → ∀ j, i ≤ j → j < s.size → p (byteAt s j) = true
  | 0, i, hf, h, j, h1, h2 => by omega
  | f + 1, i, hf, h, j, h1, h2 => by
    have hi : i < s.size := by omega
    cases hp : p (byteAt s i) with
    | false => rw [allF_no p s f i hi hp] at h; cases h
    | true =>
      rw [allF_yes p s f i hi hp] at h
      by_cases e : j = i
      · rw [e]; exact hp
      · exact allF_all p s f (i + 1) (by omega) h j (by omega) h2
theorem allB_all {p : Nat → Bool} {s : ByteArray} (h : allB p s = true) {j : Nat} (hj : j < s.size) : p (byteAt s j) = true := allF_all p s s.size 0 (by omega) h j (Nat.zero_le _) hj
theorem nameFrom_all (s : ByteArray) : ∀ (f i : Nat), s.size ≤ i + f → nameFrom s f i = true → ∀ j, i ≤ j → j < s.size → WdP (byteAt s j)
  | 0, i, hf, h, j, h1, h2 => by omega
  | f + 1, i, hf, h, j, h1, h2 => by
    have hi : i < s.size := by omega
    cases hp : nameOk i (byteAt s i) with
    | false => rw [nameFrom_no s f i hi hp] at h; cases h
    | true =>
      rw [nameFrom_yes s f i hi hp] at h
      by_cases e : j = i
      · rw [e]
        have h9 : nameOkP i (byteAt s i) := of_decide_eq_true hp
        unfold nameOkP at h9
        unfold WdP
        omega
      · exact nameFrom_all s f (i + 1) (by omega) h j (by omega) h2
theorem idxF_at {s : ByteArray} {c : Nat} : ∀ (f i k : Nat), idxF s c f i = (k : Int) → byteAt s k = c
  | 0, i, k, h => by
    have h : (-1 : Int) = k := h
    omega
  | f + 1, i, k, h => by
    by_cases hi : i < s.size
    · by_cases hc : byteAt s i = c
      · rw [idxF_yes s c f i hi hc] at h
        have : k = i := by omega
        rw [this]; exact hc
      · rw [idxF_no s c f i hi hc] at h
        exact idxF_at f (i + 1) k h
    · rw [idxF_end s c _ i hi] at h; omega
theorem lasF_at {s : ByteArray} {c : Nat} : ∀ (i k : Nat), lasF s c i = (k : Int) → byteAt s k = c
  | 0, k, h => by
    have h : (-1 : Int) = k := h
    omega
  | i + 1, k, h => by
    unfold lasF at h
    split at h
    · next hc =>
      have : k = i := by omega
      rw [this]; exact hc
    · exact lasF_at i k h
theorem dig_wd {b : Nat} (h : digB b = true) : WdP b := by
  have h9 : 48 ≤ b ∧ b ≤ 57 := of_decide_eq_true h
  unfold WdP
  omega
theorem of_wd {be : ByteArray} (hbe : be = be3 ∨ be = be5) {b : Nat} (h : ofB be b = true) : WdP b := by
  unfold ofB at h
  rw [Bool.or_eq_true, Bool.or_eq_true] at h
  rcases h with (h | h) | h
  · exact dig_wd h
  · unfold letB at h
    rw [Bool.or_eq_true, decide_eq_true_eq, decide_eq_true_eq] at h
    unfold WdP
    omega
  · have h0 := of_decide_eq_true h
    by_cases hw : WdP b
    · exact hw
    · exfalso
      have : idx be b = -1 := by
        unfold WdP at hw
        rcases hbe with rfl | rfl
        · exact idx_none _ _ (fun j hj => by
            have : j = 0 ∨ j = 1 ∨ j = 2 := by have : be3.size = 3 := rfl; omega
            rcases this with rfl | rfl | rfl
            · show (43 : Nat) ≠ b; omega
            · show (46 : Nat) ≠ b; omega
            · show (126 : Nat) ≠ b; omega)
        · exact idx_none _ _ (fun j hj => by
            have : j = 0 ∨ j = 1 ∨ j = 2 ∨ j = 3 ∨ j = 4 := by have : be5.size = 5 := rfl; omega
            rcases this with rfl | rfl | rfl | rfl | rfl
            · show (43 : Nat) ≠ b; omega
            · show (46 : Nat) ≠ b; omega
            · show (126 : Nat) ≠ b; omega
            · show (45 : Nat) ≠ b; omega
            · show (58 : Nat) ≠ b; omega)
      omega
theorem rest_wd {r : ByteArray} (hu : allB (ofB be5) (upOf r) = true) (hv : allB (ofB be3) (revOf r) = true) : ∀ j, j < r.size → WdP (byteAt r j) := by
  intro j hj
  unfold upOf at hu
  unfold revOf at hv
  rcases las_range r 45 with h | ⟨k, h, hk⟩
  · rw [h, if_neg (by omega)] at hu
    exact of_wd (.inr rfl) (allB_all hu hj)
  · rw [h, if_pos (by omega), Int.toNat_natCast] at hu hv
    rcases Nat.lt_trichotomy j k with h1 | h1 | h1
    · have := allB_all hu (j := j) (by rw [ByteArray.size_extract]; omega)
      rw [byteAt_ext r 0 k j (by omega) (by omega), Nat.zero_add] at this
      exact of_wd (.inr rfl) this
    · rw [h1, show byteAt r k = 45 from lasF_at _ _ h]
      unfold WdP; omega
    · have := allB_all hv (j := j - (k + 1)) (by rw [ByteArray.size_extract]; omega)
      rw [byteAt_ext r (k + 1) r.size _ (by omega) (by omega)] at this
      rw [show k + 1 + (j - (k + 1)) = j by omega] at this
      exact of_wd (.inl rfl) this
theorem ver_wd {s : ByteArray} (h : verB s = true) : ∀ j, j < s.size → WdP (byteAt s j) := by
  intro j hj
  unfold verB verP at h
  simp only [Bool.and_eq_true] at h
  obtain ⟨_, ⟨⟨⟨he, hv⟩, _⟩, _⟩, hu⟩ := h
  have hr := rest_wd hu hv
  unfold epOf at he
  unfold restOf at hr
  rcases idx_range s 58 with h9 | ⟨k, h9, hk⟩
  · rw [h9, if_neg (by omega)] at hr
    exact hr j hj
  · rw [h9, if_pos (by omega), Int.toNat_natCast] at he hr
    rcases Nat.lt_trichotomy j k with h1 | h1 | h1
    · unfold epB at he
      rw [Bool.and_eq_true] at he
      have := allB_all he.2 (j := j) (by rw [ByteArray.size_extract]; omega)
      rw [byteAt_ext s 0 k j (by omega) (by omega), Nat.zero_add] at this
      exact dig_wd this
    · rw [h1, show byteAt s k = 58 from idxF_at _ _ _ h9]
      unfold WdP; omega
    · have := hr (j - (k + 1)) (by rw [ByteArray.size_extract]; omega)
      rw [byteAt_ext s (k + 1) s.size _ (by omega) (by omega)] at this
      rw [show k + 1 + (j - (k + 1)) = j by omega] at this
      exact this
theorem mem_wd {l : Rl.Bs} (h : ∀ j, j < (Rl.tob l).size → WdP (byteAt (Rl.tob l) j)) : ∀ b ∈ l, Rl.cls b = 0 := by
  intro b hb
  obtain ⟨j, hj, rfl⟩ := List.mem_iff_getElem.1 hb
  have := h j hj
  rw [byteAt_get _ _ hj] at this
  exact cls_wd this
theorem plain_nm : Rl.Plain nmL where
  ne := rfl
  word := fun t h => mem_wd (by
    have h : nameB (Rl.tob t) = true := h
    unfold nameB at h
    rw [Bool.and_eq_true] at h
    exact fun j hj => nameFrom_all _ _ 0 (by omega) h.2 j (Nat.zero_le _) hj)
theorem plain_ver : Rl.Plain verL where
  ne := rfl
  word := fun t h => mem_wd (ver_wd h)
end Go.Proofs.YtjkaigfpjebfbaaGreatDoor
/- Relation: what the readers hand back, as data; an atom's text; light. -/
namespace Go.Proofs.YtjkaigfpjebfbaaGreatDoor
open Go.RowKit
set_option linter.unusedVariables false

/-- An atom, as it may come. -/
def raA (a : Rl.Atm) : RA := ⟨Rl.tob a.name, (a.rel : Int), Rl.tob a.ver⟩
def rpA (a : Rl.Atm) : RP := ⟨Rl.tob a.name, Rl.tob a.ver⟩
theorem raA_inj {a b : Rl.Atm} (h : raA a = raA b) : a = b := by
  unfold raA at h
  injection h with h1 h2 h3
  cases a; cases b
  have e1 := congrArg bl h1
  have e3 := congrArg bl h3
  simp only [Rl.bl_tob] at e1 e3
  simp only [Int.ofNat_inj] at h2
  simp_all
theorem catA_at : ∀ (l : List Rl.Atm) (j : Nat) (h : j < l.length), (catA l)[j * 3]? = some (.string (raA l[j]).n) ∧ (catA l)[j * 3 + 1]? = some (.int .i64 (raA l[j]).r) ∧ (catA l)[j * 3 + 2]? = some (.string (raA l[j]).v)
  | [], j, h => absurd h (by simp)
  | a :: r, 0, h => ⟨rfl, rfl, rfl⟩
  | a :: r, j + 1, h => by
    have hr := catA_at r j (by simpa using h)
    have e : catA (a :: r) = atC a ++ catA r := rfl
    have hl : (atC a).length = 3 := rfl
    have h3 : ∀ k, (catA (a :: r))[(j + 1) * 3 + k]? = (catA r)[j * 3 + k]? := fun k => by
      rw [e, List.getElem?_append_right (by omega), hl]
      congr 1
      omega
    exact ⟨(h3 0).trans hr.1, (h3 1).trans hr.2.1, (h3 2).trans hr.2.2⟩
theorem catP_at : ∀ (l : List Rl.Atm) (j : Nat) (h : j < l.length), (catP l)[j * 2]? = some (.string (rpA l[j]).n) ∧ (catP l)[j * 2 + 1]? = some (.string (rpA l[j]).v)
  | [], j, h => absurd h (by simp)
  | a :: r, 0, h => ⟨rfl, rfl⟩
  | a :: r, j + 1, h => by
    have hr := catP_at r j (by simpa using h)
    have e : catP (a :: r) = prC a ++ catP r := rfl
    have hl : (prC a).length = 2 := rfl
    have h3 : ∀ k, (catP (a :: r))[(j + 1) * 2 + k]? = (catP r)[j * 2 + k]? := fun k => by
      rw [e, List.getElem?_append_right (by omega), hl]
      congr 1
      omega
    exact ⟨(h3 0).trans hr.1, (h3 1).trans hr.2⟩
theorem addN (b o j : Nat) : (⟨b, o, none⟩ : Addr).add j = ⟨b, o + j, none⟩ := by unfold Addr.add; split <;> simp_all
theorem AtsAt.of_reads {w : World} {B : Nat} {A : Option Addr} {c : Nat} {l : List Rl.Atm} (h : Reads w B 3 A l.length (catA l)) (hc : l.length ≤ c) (hs : ∀ a, A = some a → a.spot = none) : AtsAt w (.slice A l.length c) (l.map raA) := by
  refine ⟨A, c, by rw [List.length_map], by rw [List.length_map]; exact hc, fun j hj => ?_⟩
  rw [List.length_map] at hj
  obtain ⟨ad, e, hb, hc2⟩ := h.2 (by omega)
  have h0 := hs _ e
  obtain ⟨g, o, sp⟩ := ad
  have h0 : sp = none := h0
  subst h0 e
  have ha := catA_at l j hj
  rw [List.getElem_map]
  refine ⟨g, o, rfl, ?_, ?_, ?_⟩
  · have := hc2 _ _ ha.1; rwa [addN] at this
  · have := hc2 _ _ ha.2.1; rwa [addN] at this
  · have := hc2 _ _ ha.2.2; rwa [addN] at this
theorem row_shape {w : World} {base : Nat} {t : TypeId} {k m c : Nat} {A : Option Addr} {xs : List Value} (h : w.ownsRow base t k (.slice A m c) m xs) : m ≤ c ∧ ∀ a, A = some a → a.spot = none := by
  rcases h.2 with ⟨h9, h8⟩ | ⟨g, cap, cur, h9, _, _, hle, _⟩
  · injection h9 with h1 h2 h3
    subst h1 h2 h3
    exact ⟨Nat.le_refl _, fun a e => by cases e⟩
  · injection h9 with h1 h2 h3
    subst h1 h3
    exact ⟨hle, fun a e => by cases e; rfl⟩
theorem AtsAt.of_own {w : World} {base m c : Nat} {A : Option Addr} {l : List Rl.Atm} (h : w.ownsRow base 87 3 (.slice A m c) m (catA l)) (hm : m = l.length) : AtsAt w (.slice A m c) (l.map raA) := by
  subst hm
  exact AtsAt.of_reads (Reads.of_own h) (row_shape h).1 (row_shape h).2
theorem PrsAt.of_own {w : World} {base m c : Nat} {A : Option Addr} {l : List Rl.Atm} (h : w.ownsRow base 90 2 (.slice A m c) m (catP l)) (hm : m = l.length) : PrsAt w (.slice A m c) (l.map rpA) := by
  subst hm
  refine ⟨A, c, by rw [List.length_map], by rw [List.length_map]; exact (row_shape h).1, fun j hj => ?_⟩
  rw [List.length_map] at hj
  obtain ⟨ad, e, hb, hc2⟩ := (Reads.of_own h).2 (by omega)
  have h0 := (row_shape h).2 _ e
  obtain ⟨g, o, sp⟩ := ad
  have h0 : sp = none := h0
  subst h0 e
  have ha := catP_at l j hj
  rw [List.getElem_map]
  refine ⟨g, o, rfl, ?_, ?_⟩
  · have := hc2 _ _ ha.1; rwa [addN] at this
  · have := hc2 _ _ ha.2; rwa [addN] at this
theorem OwnC.cls {w : World} {base : Nat} {v : Value} {L : List (List Rl.Atm)} (h : OwnC w base v L) : ClsAt w v (L.map (·.map raA)) := by
  obtain ⟨A, c, xs, rfl, ho, hi⟩ := h
  refine ⟨A, c, by rw [List.length_map], by rw [List.length_map]; exact (row_shape ho).1, fun j hj => ?_⟩
  rw [List.length_map] at hj
  obtain ⟨g, Aj, cj, e, hg, hc, hle, hr, hs⟩ := row_at ho hi rfl hj
  have e2 : L.getD j [] = L[j] := by rw [List.getD_eq_getElem?_getD, List.getElem?_eq_getElem hj]; rfl
  rw [e2] at hc hle hr
  refine ⟨g, 0, _, e, by rw [Nat.zero_add]; exact hc, ?_⟩
  rw [List.getElem_map]
  exact AtsAt.of_reads hr hle hs
/-- May an atom be? -/
def mayR (a : RA) : Bool := mayB a.n a.r a.v
/-- An atom's text. -/
def atx (a : RA) : Rl.Bs := if mayR a then (if a.r = 0 then bl a.n else bl a.n ++ [32, 40] ++ bl (sgnB a.r) ++ [32] ++ bl a.v ++ [41]) else []
theorem mayR_len {a : RA} (h : mayR a = true) : a.n.size ≤ 24 ∧ a.v.size ≤ 48 ∧ 0 ≤ a.r ∧ a.r ≤ 5 := by
  unfold mayR mayB at h
  simp only [Bool.and_eq_true, decide_eq_true_eq] at h
  obtain ⟨⟨⟨h1, h2⟩, h3⟩, h4⟩ := h
  unfold nameB at h1
  simp only [Bool.and_eq_true, decide_eq_true_eq] at h1
  refine ⟨h1.1.2, ?_, h2, h3⟩
  split at h4
  · have := of_decide_eq_true h4; omega
  · unfold verB at h4
    simp only [Bool.and_eq_true, decide_eq_true_eq] at h4
    exact h4.1.1.2
theorem sgnB_len (k : Int) : (sgnB k).size ≤ 2 := by
  unfold sgnB
  split
  · exact Nat.le_refl _
  split
  · exact Nat.le_refl _
  split
  · show 1 ≤ 2; omega
  split
  · exact Nat.le_refl _
  split
  · exact Nat.le_refl _
  · show 0 ≤ 2; omega
theorem atx_len (a : RA) : (atx a).length ≤ 78 := by
  unfold atx
  split
  · next h =>
    have h1 := mayR_len h
    have h2 := sgnB_len a.r
    split
    · rw [bl_len]; omega
    · simp only [List.length_append, bl_len, List.length_cons, List.length_nil]; omega
  · exact Nat.zero_le _
/-- Clauses that may be. -/
def okC (c : List RA) : Bool := decide (1 ≤ c.length) && decide (c.length ≤ 6) && c.all mayR
def okL (L : List (List RA)) : Bool := decide (L.length ≤ 12) && L.all okC
def ctx (c : List RA) : Rl.Bs := Lib.join (c.map atx) [32, 124, 32]
/-- A relation's text. -/
def ltx (L : List (List RA)) : Rl.Bs := if okL L then Lib.join (L.map ctx) [44, 32] else []
/-- Is a relation light? -/
def lightB (L : List (List RA)) : Bool := decide (L.length ≤ 30) && L.all (fun c => decide (c.length ≤ 30))
end Go.Proofs.YtjkaigfpjebfbaaGreatDoor
