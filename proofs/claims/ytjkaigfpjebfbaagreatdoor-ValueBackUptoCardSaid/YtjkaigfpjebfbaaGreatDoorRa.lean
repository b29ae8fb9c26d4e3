/- relation's reader: atom. -/
import Derived.Test.YtjkaigfpjebfbaaGreatDoorRr
import Derived.Deep.RegionWith
import Derived.Deep.RegionHeld3
namespace Go.Proofs.YtjkaigfpjebfbaaGreatDoor
open Go.RowKit
set_option linter.unusedVariables false

def nmL (l : Rl.Bs) : Bool := nameB (Rl.tob l)
def verL (l : Rl.Bs) : Bool := verB (Rl.tob l)
theorem may_eq (a : Rl.Atm) : Rl.mayA nmL verL a = mayB (Rl.tob a.name) (a.rel : Int) (Rl.tob a.ver) := by
  unfold Rl.mayA mayB nmL verL
  rw [decide_eq_true (show (0 : Int) ≤ (a.rel : Int) by omega), Bool.and_true, Bool.and_assoc]
  congr 1
  by_cases h : a.rel = 0
  · rw [if_pos h, if_pos (by omega), decide_eq_true (show (a.rel : Int) ≤ 5 by omega), Bool.true_and, Bool.eq_iff_iff, decide_eq_true_eq, decide_eq_true_eq]
    show a.ver = [] ↔ a.ver.length = 0
    rw [List.length_eq_zero_iff]
  · rw [if_neg h, if_neg (by omega)]
    congr 1
    rw [Bool.eq_iff_iff, decide_eq_true_eq, decide_eq_true_eq]
    omega
theorem atom_size : (Tryz.prog.info? 87).map (·.size) = some 3 := by kernel_rfl
theorem results_atom {fn : Func} {t p : Tmp} (h : fn.results = #[.cell p 87, .tmp t]) (tmps : Array Value) (w : World) (g : Nat) (cs : Array Value) (hp : tmps.getD p undef = .pointer (some ⟨g, 0, none⟩)) (hg : Blk w g 87 cs) (hs : cs.size = 3) :
    (results fn tmps).run Tryz.prog w = .ok (.tuple #[.agg cs, tmps.getD t undef]) w := by
  have hp' : tmps[p]?.getD undef = .pointer (some ⟨g, 0, none⟩) := by simpa using hp
  have hl := run_loadVar_row (P := Tryz.prog) w g 87 87 cs (0, 0) _ hg Tryz.underlying87 rfl (by rw [atom_size, hs])
  simp [results, h, hp', asAddr, hl]
theorem ret_atom {fn : Func} {t p : Tmp} {R : Ending → World → Prop} {a : Act} {w : World} (h : fn.results = #[.cell p 87, .tmp t]) (g : Nat) (cs : Array Value) (hg : Blk w g 87 cs) (hs : cs.size = 3)
    (hp : a.tmps.getD p undef = .pointer (some ⟨g, 0, none⟩)) (hd : a.defers = []) (hR : R (.returned (.tuple #[.agg cs, a.tmps.getD t undef])) w) : bodyPost Tryz.prog fn R .ret a w :=
  bodyPost_ret (results_atom h _ w g cs hp hg hs) hd hR
theorem wordT_mem {T : List Rl.Bs} {t : Rl.Bs} (h : t ∈ (Rl.wordT T).2) : t ∈ T := by
  cases T with
  | nil => cases h
  | cons x r => exact List.mem_cons_of_mem _ h
theorem isT_mem {T T' : List Rl.Bs} {t x : Rl.Bs} (h : Rl.isT t T = some T') (hx : x ∈ T') : x ∈ T := by
  cases T with
  | nil => cases h
  | cons y r =>
    have h' : (if y = t then some r else none) = some T' := h
    by_cases e : y = t
    · rw [if_pos e] at h'
      injection h' with h'
      rw [h']
      exact List.mem_cons_of_mem _ hx
    · rw [if_neg e] at h'; cases h'
/-- What reading an atom hands back. -/
def AtomRes (w' : World) (q M n : Nat) (e : Ending) : Option Rl.Atm × List Rl.Bs → Prop
  | (some a, T') => e = .returned (.tuple #[atV (Rl.tob a.name) (a.rel : Int) (Rl.tob a.ver), .bool true]) ∧ ∃ A' n' c', RdAt w' q M A' n' c' T' ∧ n' ≤ n
  | (none, _) => ∃ x r y, e = .returned (.tuple #[atV x r y, .bool false])
theorem three_of {w w' : World} {B : Nat} {a b c : Value} (h : Blk w B 87 #[a, b, c]) (hb : Below w.heap.size w w') : w'.cell? ⟨B, 0, none⟩ = some a ∧ w'.cell? ⟨B, 1, none⟩ = some b ∧ w'.cell? ⟨B, 2, none⟩ = some c :=
  ⟨(h.below hb h.lt).cell 0, (h.below hb h.lt).cell 1, (h.below hb h.lt).cell 2⟩
theorem three_set {w w5 : World} {B R : Nat} {a b c x y z : Value} (h : Blk w B 87 #[a, b, c]) (hb : Below w.heap.size w w5) (hR : R ≠ B) : (((w5.setCell ⟨R, 0, none⟩ x).setCell ⟨R, 1, none⟩ y).setCell ⟨R, 2, none⟩ z).cell? ⟨B, 0, none⟩ = some a ∧ (((w5.setCell ⟨R, 0, none⟩ x).setCell ⟨R, 1, none⟩ y).setCell ⟨R, 2, none⟩ z).cell? ⟨B, 1, none⟩ = some b ∧ (((w5.setCell ⟨R, 0, none⟩ x).setCell ⟨R, 1, none⟩ y).setCell ⟨R, 2, none⟩ z).cell? ⟨B, 2, none⟩ = some c := by
  have h2 := (((h.below hb h.lt).far (p := ⟨R, 0, none⟩) (fun e => hR e.symm) x).far (p := ⟨R, 1, none⟩) (fun e => hR e.symm) y).far (p := ⟨R, 2, none⟩) (fun e => hR e.symm) z
  exact ⟨h2.cell 0, h2.cell 1, h2.cell 2⟩
set_option maxRecDepth 100000 in
set_option maxHeartbeats 4000000 in
theorem atom_any (q M : Nat) (A : Option Addr) (n c : Nat) (T : List Rl.Bs) (w : World) (h : RdAt w q M A n c T) (hM : M ≤ w.heap.size) (hn : n ≤ 4294967296) (hsz : ∀ t ∈ T, t.length ≤ 1048576) :
    Calls Tryz.prog 99 #[.pointer (some ⟨q, 0, none⟩)] w fun e w' => Upd (fun k => k = q) w w' ∧ AtomRes w' q M n e (Rl.atomP nmL verL T) := by
  have HR1 := Lib.hid (h.below ((Below.refl _ w).alloc (Nat.le_refl _) (.cells #[.string ⟨#[]⟩, .int .i64 0, .string ⟨#[]⟩] 87)))
  have HW1 := Lib.hid (word_any q M A n c T _ HR1.out hn)
  have HQ := Lib.hid h.blk.lt
  clear h
  go_enter Tryz.func99, Tryz.ntmps99
  go_wp2_with fail
  go_at_call 114
  refine HW1.out.mono ?_
  rintro e w2 ⟨rfl, hu2, A2, n2, c2, hr2, hn2⟩
  have HU2 := Lib.hid ((Upd.refl (fun k => k = q) w).alloc (.cells #[.string ⟨#[]⟩, .int .i64 0, .string ⟨#[]⟩] 87) |>.trans hu2)
  have hqR : q ≠ w.heap.size := by have := HQ.out; omega
  have hbr2 : Blk w2 w.heap.size 87 #[.string ⟨#[]⟩, .int .i64 0, .string ⟨#[]⟩] := (Blk.new w _ _).upd hu2 (fun e => hqR e.symm)
  obtain ⟨X, hX⟩ : ∃ X, X = Rl.tob (Rl.wordT T).1 := ⟨_, rfl⟩
  obtain ⟨T1, hT1⟩ : ∃ T1, T1 = (Rl.wordT T).2 := ⟨_, rfl⟩
  rw [← hX]
  rw [← hT1] at hr2
  obtain ⟨W3, hW3⟩ : ∃ W3, W3 = w2.alloc (.cells #[.string X, .int .i64 0, .string ⟨#[]⟩] 87) := ⟨_, rfl⟩
  obtain ⟨B, hB⟩ : ∃ B, B = w2.heap.size := ⟨_, rfl⟩
  have hbb3 : Blk W3 B 87 #[.string X, .int .i64 0, .string ⟨#[]⟩] := by rw [hW3, hB]; exact Blk.new _ _ _
  have HBF : Hid (w.heap.size ≤ B) := Lib.hid (by rw [hB]; exact HU2.out.size)
  have hqB : q ≠ B := by have := hr2.blk.lt; omega
  have hRB : w.heap.size ≠ B := by have := hbr2.lt; omega
  have hbr3 : Blk W3 w.heap.size 87 #[.string ⟨#[]⟩, .int .i64 0, .string ⟨#[]⟩] := by rw [hW3]; exact hbr2.alloc _
  have hbel3 : Below w2.heap.size w2 W3 := by rw [hW3]; exact (Below.refl _ _).alloc (Nat.le_refl _) _
  have hr3 := hr2.below hbel3
  have HU3 : Hid (Upd (fun k => k = q) w W3) := Lib.hid (by rw [hW3]; exact HU2.out.alloc _)
  have HIS : Hid (Calls Tryz.prog 85 #[.pointer (some ⟨q, 0, none⟩), .string ⟨#[40]⟩] W3 fun e w' => e = .returned (.bool (Rl.isT [40] T1).isSome) ∧ Upd (fun k => k = q) W3 w' ∧ ∃ A' n' c', RdAt w' q M A' n' c' ((Rl.isT [40] T1).getD T1) ∧ n' ≤ n2) := Lib.hid (is_any2 q M A2 n2 c2 T1 [40] W3 hr3 (by omega))
  have HR3 := Lib.hid hr3
  have HBB3 := Lib.hid hbb3
  have HBR3 := Lib.hid hbr3
  have HX := Lib.hid hX
  have HT1 := Lib.hid hT1
  have HSZ := Lib.hid hsz
  clear hr2 hr3 hu2 hbr2 hbr3 hbb3 hbel3 hX hT1 HU2 HR1 HW1 hsz
  have hxl : X.size ≤ 1048576 := by
    rw [HX.out]
    cases hT : T with
    | nil => exact Nat.zero_le _
    | cons x r => exact HSZ.out x (by rw [hT]; simp)
  obtain ⟨o, ho⟩ : ∃ o, o = Rl.isT [40] T1 := ⟨_, rfl⟩
  rw [← ho] at HIS
  have HO := Lib.hid ho
  clear ho
  go_upto_region 2 with fail
  rw [← hW3, ← hB]
  clear hW3 hB
  go_upto_if 9 with (go_at_call 85; refine HIS.out.mono ?_; rintro e w4 ⟨rfl, hu4, A4, n4, c4, hr4, hn4⟩)
  have HBB4 := Lib.hid (HBB3.out.upd hu4 (fun e => hqB e.symm))
  have HBR4 := Lib.hid (HBR3.out.upd hu4 (fun e => hqR e.symm))
  have HU4 := Lib.hid (HU3.out.trans hu4)
  have HR4 := Lib.hid hr4
  clear hu4 hr4 HIS
  go_cut [3] (fun v3 wx => v3 = .bool false ∧ ∃ (k : Nat) (V : Rl.Bs) (T9 : List Rl.Bs) (A9 : Option Addr) (n9 c9 : Nat), Hid (Blk wx B 87 #[.string X, .int .i64 (k : Int), .string (Rl.tob V)] ∧ Blk wx w.heap.size 87 #[.string ⟨#[]⟩, .int .i64 0, .string ⟨#[]⟩] ∧ RdAt wx q M A9 n9 c9 T9 ∧ Upd (fun k => k = q) w wx) ∧ Hid (Rl.atomP nmL verL T = (Rl.may1 nmL verL ⟨(Rl.wordT T).1, k, V⟩, T9)) ∧ n9 ≤ n ∧ V.length ≤ 1048576)
  case first =>
    cases o with
    | none =>
      have hi := HO.out.symm
      have HAP : Hid (Rl.atomP nmL verL T = (Rl.may1 nmL verL ⟨(Rl.wordT T).1, 0, []⟩, T1)) := Lib.hid (by
        unfold Rl.atomP
        rw [← HT1.out, hi])
      clear hi
      go_wp2_with fail
      go_meet
      exact ⟨rfl, 0, [], T1, A4, n4, c4, Lib.hid ⟨HBB4.out, HBR4.out, HR4.out, HU4.out⟩, HAP, by omega, Nat.zero_le _⟩
    | some T2 =>
      have hi := HO.out.symm
      have HAP0 : Hid (Rl.atomP nmL verL T = Rl.parP nmL verL (Rl.wordT T).1 T2) := Lib.hid (by
        unfold Rl.atomP
        rw [← HT1.out, hi])
      have hT2s : ∀ t ∈ T2, t ∈ T := fun t ht => by
        have h1 : t ∈ T1 := isT_mem hi ht
        rw [HT1.out] at h1
        exact wordT_mem h1
      have hr4 : RdAt w4 q M A4 n4 c4 T2 := HR4.out
      have HT2S := Lib.hid hT2s
      have HW4 := Lib.hid (word_any q M A4 n4 c4 T2 w4 hr4 (by omega))
      clear hi hr4 hT2s
      go_wp2_with fail
      go_at_call 114
      refine HW4.out.mono ?_
      rintro e w5 ⟨rfl, hu5, A5, n5, c5, hr5, hn5⟩
      have HBB5 := Lib.hid (HBB4.out.upd hu5 (fun e => hqB e.symm))
      have HBR5 := Lib.hid (HBR4.out.upd hu5 (fun e => hqR e.symm))
      have HU5 := Lib.hid (HU4.out.trans hu5)
      obtain ⟨Y, hY⟩ : ∃ Y, Y = Rl.tob (Rl.wordT T2).1 := ⟨_, rfl⟩
      rw [← hY]
      have hrl := Rel_any Y w5
      have HRL : Hid (Calls Tryz.prog 115 #[.string Y] w5 fun e w' => e = .returned (.int .i64 (Rl.relOf (Rl.wordT T2).1 : Int)) ∧ w5 = w') := Lib.hid (by rw [hY] at hrl ⊢; exact hrl)
      obtain ⟨k, hk⟩ : ∃ k, k = Rl.relOf (Rl.wordT T2).1 := ⟨_, rfl⟩
      rw [← hk] at HRL
      have HK := Lib.hid hk
      have f1 : w5.frozen? ⟨B, 1, none⟩ = false := HBB5.out.frozen 1
      have k1 : w5.cell? ⟨B, 1, none⟩ = some (.int .i64 0) := HBB5.out.cell 1
      have hBM : ¬ B < M := by have := HBF.out; omega
      have hub : Upd (fun j => j = B) w5 (w5.setCell ⟨B, 1, none⟩ (.int .i64 (k : Int))) := (Upd.refl (fun j => j = B) w5).setCell (p := ⟨B, 1, none⟩) (.inl rfl) _
      obtain ⟨W6, hW6⟩ : ∃ W6, W6 = w5.setCell ⟨B, 1, none⟩ (.int .i64 (k : Int)) := ⟨_, rfl⟩
      have hbb6 : Blk W6 B 87 #[.string X, .int .i64 (k : Int), .string ⟨#[]⟩] := by have := HBB5.out.set_ 1 (.int .i64 (k : Int)); rw [hW6]; simpa using this
      have hu06 : Upd (fun k => k = q) w W6 := by rw [hW6]; exact HU5.out.setCell (p := ⟨B, 1, none⟩) (.inr HBF.out) _
      rw [← hW6] at hub
      have hr6 := hr5.upd hub hqB (fun b o e _ h9 => by have := hr5.lo.2 b o e; omega)
      have hbr6 := HBR5.out.upd hub hRB
      have HW6 := Lib.hid (word_any q M A5 n5 c5 _ W6 hr6 (by omega))
      have HBB6 := Lib.hid hbb6
      have HBR6 := Lib.hid hbr6
      have HU6 := Lib.hid hu06
      clear hrl hk hY hu5 hr5 hub hr6 hbb6 hbr6 hu06
      go_wp2_with (go_at_call 115; refine HRL.out.mono ?_; rintro e w6 ⟨rfl, rfl⟩)
      rw [← hW6]
      clear hW6 f1 k1
      go_at_call 114
      refine HW6.out.mono ?_
      rintro e w7 ⟨rfl, hu7, A7, n7, c7, hr7, hn7⟩
      obtain ⟨V, hV⟩ : ∃ V, V = (Rl.wordT (Rl.wordT T2).2).1 := ⟨_, rfl⟩
      obtain ⟨T4, hT4⟩ : ∃ T4, T4 = (Rl.wordT (Rl.wordT T2).2).2 := ⟨_, rfl⟩
      rw [← hV]
      rw [← hT4] at hr7
      have hVl : V.length ≤ 1048576 := by
        rw [hV]
        cases hT : (Rl.wordT T2).2 with
        | nil => exact Nat.zero_le _
        | cons x r => exact HSZ.out x (HT2S.out x (wordT_mem (by rw [hT]; simp)))
      have HV := Lib.hid hV
      have HT4 := Lib.hid hT4
      have HBB7 := Lib.hid (HBB6.out.upd hu7 (fun e => hqB e.symm))
      have HBR7 := Lib.hid (HBR6.out.upd hu7 (fun e => hqR e.symm))
      have HU7 := Lib.hid (HU6.out.trans hu7)
      have f2 : w7.frozen? ⟨B, 2, none⟩ = false := HBB7.out.frozen 2
      have k2 : w7.cell? ⟨B, 2, none⟩ = some (.string ⟨#[]⟩) := HBB7.out.cell 2
      have hub : Upd (fun j => j = B) w7 (w7.setCell ⟨B, 2, none⟩ (.string (Rl.tob V))) := (Upd.refl (fun j => j = B) w7).setCell (p := ⟨B, 2, none⟩) (.inl rfl) _
      obtain ⟨W8, hW8⟩ : ∃ W8, W8 = w7.setCell ⟨B, 2, none⟩ (.string (Rl.tob V)) := ⟨_, rfl⟩
      have hbb8 : Blk W8 B 87 #[.string X, .int .i64 (k : Int), .string (Rl.tob V)] := by have := HBB7.out.set_ 2 (.string (Rl.tob V)); rw [hW8]; simpa using this
      have hu08 : Upd (fun k => k = q) w W8 := by rw [hW8]; exact HU7.out.setCell (p := ⟨B, 2, none⟩) (.inr HBF.out) _
      rw [← hW8] at hub
      have hr8 := hr7.upd hub hqB (fun b o e _ h9 => by have := hr7.lo.2 b o e; omega)
      have hbr8 := HBR7.out.upd hub hRB
      have HIS8 : Hid (Calls Tryz.prog 85 #[.pointer (some ⟨q, 0, none⟩), .string ⟨#[41]⟩] W8 fun e w' => e = .returned (.bool (Rl.isT [41] T4).isSome) ∧ Upd (fun k => k = q) W8 w' ∧ ∃ A' n' c', RdAt w' q M A' n' c' ((Rl.isT [41] T4).getD T4) ∧ n' ≤ n7) := Lib.hid (is_any2 q M A7 n7 c7 T4 [41] W8 hr8 (by omega))
      have HBB8 := Lib.hid hbb8
      have HBR8 := Lib.hid hbr8
      have HU8 := Lib.hid hu08
      have HR8 := Lib.hid hr8
      have HPAR : Hid (Rl.parP nmL verL (Rl.wordT T).1 T2 = if k = 0 then (none, T4) else match Rl.isT [41] T4 with | none => (none, T4) | some T5 => (Rl.may1 nmL verL ⟨(Rl.wordT T).1, k, V⟩, T5)) := Lib.hid (by rw [HK.out, HV.out, HT4.out]; rfl)
      have k1 : W8.cell? ⟨B, 1, none⟩ = some (.int .i64 (k : Int)) := hbb8.cell 1
      clear hV hT4 hu7 hr7 hub hbb8 hu08 hr8 hbr8
      go_upto_region 5 with fail
      rw [← hW8]
      clear hW8 f2 k2
      have r0 : W8.cell? ⟨w.heap.size, 0, none⟩ = some (.string ⟨#[]⟩) := HBR8.out.cell 0
      have r1 : W8.cell? ⟨w.heap.size, 1, none⟩ = some (.int .i64 0) := HBR8.out.cell 1
      have r2 : W8.cell? ⟨w.heap.size, 2, none⟩ = some (.string ⟨#[]⟩) := HBR8.out.cell 2
      have f0 : W8.frozen? ⟨w.heap.size, 0, none⟩ = false := HBR8.out.frozen 0
      have f1 : W8.frozen? ⟨w.heap.size, 1, none⟩ = false := HBR8.out.frozen 1
      have f2 : W8.frozen? ⟨w.heap.size, 2, none⟩ = false := HBR8.out.frozen 2
      by_cases hk0 : k = 0
      · have q0 : ((k : Int) == 0) = true := by rw [beq_iff_eq]; omega
        have HAN : Hid (Rl.atomP nmL verL T = (none, T4)) := Lib.hid (by rw [HAP0.out, HPAR.out, if_pos hk0])
        clear hk0
        go_wp2_with fail
        have hbrz : Blk (((W8.setCell ⟨w.heap.size, 0, none⟩ (.string ⟨#[]⟩)).setCell ⟨w.heap.size, 1, none⟩ (.int .i64 0)).setCell ⟨w.heap.size, 2, none⟩ (.string ⟨#[]⟩)) w.heap.size 87 #[.string ⟨#[]⟩, .int .i64 0, .string ⟨#[]⟩] := by
          have := ((HBR8.out.set_ 0 (.string ⟨#[]⟩)).set_ 1 (.int .i64 0)).set_ 2 (.string ⟨#[]⟩)
          simpa using this
        refine ret_atom Tryz.results99 w.heap.size _ hbrz rfl rfl rfl ?_
        rw [HAN.out]
        exact ⟨((HU8.out.setCell (p := ⟨w.heap.size, 0, none⟩) (.inr (Nat.le_refl _)) _).setCell (p := ⟨w.heap.size, 1, none⟩) (.inr (Nat.le_refl _)) _).setCell (p := ⟨w.heap.size, 2, none⟩) (.inr (Nat.le_refl _)) _, _, _, _, rfl⟩
      · have q0 : ((k : Int) == 0) = false := by rw [beq_eq_false_iff_ne]; omega
        obtain ⟨o8, ho8⟩ : ∃ o8, o8 = Rl.isT [41] T4 := ⟨_, rfl⟩
        rw [← ho8] at HIS8 HPAR
        clear ho8
        cases o8 with
        | none =>
          have HAN : Hid (Rl.atomP nmL verL T = (none, T4)) := Lib.hid (by rw [HAP0.out, HPAR.out, if_neg hk0])
          clear hk0 r0 r1 r2 f0 f1 f2
          go_wp2_with (go_at_call 85; refine HIS8.out.mono ?_; rintro e w9 ⟨rfl, hu9, A9, n9, c9, hr9, hn9⟩; have HBR9 := Lib.hid (HBR8.out.upd hu9 (fun e => hqR e.symm)); have HU9 := Lib.hid (HU8.out.trans hu9); have r0 : w9.cell? ⟨w.heap.size, 0, none⟩ = some (.string ⟨#[]⟩) := HBR9.out.cell 0; have r1 : w9.cell? ⟨w.heap.size, 1, none⟩ = some (.int .i64 0) := HBR9.out.cell 1; have r2 : w9.cell? ⟨w.heap.size, 2, none⟩ = some (.string ⟨#[]⟩) := HBR9.out.cell 2; have f0 : w9.frozen? ⟨w.heap.size, 0, none⟩ = false := HBR9.out.frozen 0; have f1 : w9.frozen? ⟨w.heap.size, 1, none⟩ = false := HBR9.out.frozen 1; have f2 : w9.frozen? ⟨w.heap.size, 2, none⟩ = false := HBR9.out.frozen 2; clear hu9 hr9)
          have hbrz : Blk (((w9.setCell ⟨w.heap.size, 0, none⟩ (.string ⟨#[]⟩)).setCell ⟨w.heap.size, 1, none⟩ (.int .i64 0)).setCell ⟨w.heap.size, 2, none⟩ (.string ⟨#[]⟩)) w.heap.size 87 #[.string ⟨#[]⟩, .int .i64 0, .string ⟨#[]⟩] := by
            have := ((HBR9.out.set_ 0 (.string ⟨#[]⟩)).set_ 1 (.int .i64 0)).set_ 2 (.string ⟨#[]⟩)
            simpa using this
          refine ret_atom Tryz.results99 w.heap.size _ hbrz rfl rfl rfl ?_
          rw [HAN.out]
          exact ⟨((HU9.out.setCell (p := ⟨w.heap.size, 0, none⟩) (.inr (Nat.le_refl _)) _).setCell (p := ⟨w.heap.size, 1, none⟩) (.inr (Nat.le_refl _)) _).setCell (p := ⟨w.heap.size, 2, none⟩) (.inr (Nat.le_refl _)) _, _, _, _, rfl⟩
        | some T5 =>
          have HAP : Hid (Rl.atomP nmL verL T = (Rl.may1 nmL verL ⟨(Rl.wordT T).1, k, V⟩, T5)) := Lib.hid (by rw [HAP0.out, HPAR.out, if_neg hk0])
          clear hk0 r0 r1 r2 f0 f1 f2
          go_wp2_with (go_at_call 85; refine HIS8.out.mono ?_; rintro e w9 ⟨rfl, hu9, A9, n9, c9, hr9, hn9⟩; have hr9' : RdAt w9 q M A9 n9 c9 T5 := hr9; have HR9 := Lib.hid hr9'; have HBB9 := Lib.hid (HBB8.out.upd hu9 (fun e => hqB e.symm)); have HBR9 := Lib.hid (HBR8.out.upd hu9 (fun e => hqR e.symm)); have HU9 := Lib.hid (HU8.out.trans hu9); clear hu9 hr9 hr9')
          go_meet
          exact ⟨rfl, k, V, T5, A9, n9, c9, Lib.hid ⟨HBB9.out, HBR9.out, HR9.out, HU9.out⟩, HAP, by omega, hVl⟩
  case rest =>
    obtain ⟨rfl, k, V, T9, A9, n9, c9, HST, HAP, hn9, hVl⟩ := hcut
    clear HBB4 HBR4 HU4 HR4 HO HBB3 HBR3 HR3 HU3
    have hme := may_eq ⟨(Rl.wordT T).1, k, V⟩
    have hmy := may_any X (k : Int) (Rl.tob V)
    have HME : Hid (Rl.mayA nmL verL ⟨(Rl.wordT T).1, k, V⟩ = mayB X (k : Int) (Rl.tob V)) := Lib.hid (by rw [HX.out]; exact hme)
    obtain ⟨mb, hmb⟩ : ∃ mb, mb = mayB X (k : Int) (Rl.tob V) := ⟨_, rfl⟩
    rw [← hmb] at HME hmy
    have HMAY : Hid (∀ W, Below wc.heap.size wc W → Calls Tryz.prog 51 #[.agg #[.string X, .int .i64 (k : Int), .string (Rl.tob V)]] W fun e w' => e = .returned (.bool mb) ∧ Below wc.heap.size wc w') := Lib.hid (fun W hW => (hmy W hxl hVl).mono fun e w' ⟨he, hb⟩ => ⟨he, hW.trans (hb.mono hW.size)⟩)
    have HBB := Lib.hid HST.out.1
    have HBR := Lib.hid HST.out.2.1
    have HRR := Lib.hid HST.out.2.2.1
    have HUU := Lib.hid HST.out.2.2.2
    have hb0 : Below wc.heap.size wc wc.drew := ⟨rfl, rfl, rfl, Nat.le_refl _, fun _ _ => rfl⟩
    clear HST hme hmy hmb
    go_wp2_with fail
    go_region_held3 (fun W => W.cell? ⟨B, 0, none⟩ = some (.string X) ∧ W.cell? ⟨B, 1, none⟩ = some (.int .i64 (k : Int)) ∧ W.cell? ⟨B, 2, none⟩ = some (.string (Rl.tob V)))
      (first | (refine three_of HBB.out ?_; assumption) | (refine three_set HBB.out ?_ hRB; assumption))
      (first
        | (go_at_call 51
           refine (HMAY.out _ (by assumption)).mono ?_
           rintro e w5 ⟨rfl, hb5⟩
           have HBR5 := Lib.hid (HBR.out.below hb5 HBR.out.lt)
           have r0 : w5.cell? ⟨w.heap.size, 0, none⟩ = some (.string ⟨#[]⟩) := HBR5.out.cell 0
           have r1 : w5.cell? ⟨w.heap.size, 1, none⟩ = some (.int .i64 0) := HBR5.out.cell 1
           have r2 : w5.cell? ⟨w.heap.size, 2, none⟩ = some (.string ⟨#[]⟩) := HBR5.out.cell 2
           have f0 : w5.frozen? ⟨w.heap.size, 0, none⟩ = false := HBR5.out.frozen 0
           have f1 : w5.frozen? ⟨w.heap.size, 1, none⟩ = false := HBR5.out.frozen 1
           have f2 : w5.frozen? ⟨w.heap.size, 2, none⟩ = false := HBR5.out.frozen 2))
    have hbrz : Blk (((w5.setCell ⟨w.heap.size, 0, none⟩ (.string X)).setCell ⟨w.heap.size, 1, none⟩ (.int .i64 (k : Int))).setCell ⟨w.heap.size, 2, none⟩ (.string (Rl.tob V))) w.heap.size 87 #[.string X, .int .i64 (k : Int), .string (Rl.tob V)] := by
      have := ((HBR5.out.set_ 0 (.string X)).set_ 1 (.int .i64 (k : Int))).set_ 2 (.string (Rl.tob V))
      simpa using this
    have hu5 : Upd (fun k => k = q) w w5 := HUU.out.trans (Upd.of_below hb5 (T := fun k => k = q) (fun j h1 h2 => by omega))
    have HUF := Lib.hid (((hu5.setCell (p := ⟨w.heap.size, 0, none⟩) (.inr (Nat.le_refl _)) (.string X)).setCell (p := ⟨w.heap.size, 1, none⟩) (.inr (Nat.le_refl _)) (.int .i64 (k : Int))).setCell (p := ⟨w.heap.size, 2, none⟩) (.inr (Nat.le_refl _)) (.string (Rl.tob V)))
    have hp5 : Upd (fun j => j = w.heap.size) wc w5 := Upd.of_below hb5 (T := fun j => j = w.heap.size) (fun j h1 h2 => by omega)
    have hpf := ((hp5.setCell (p := ⟨w.heap.size, 0, none⟩) (.inl rfl) (.string X)).setCell (p := ⟨w.heap.size, 1, none⟩) (.inl rfl) (.int .i64 (k : Int))).setCell (p := ⟨w.heap.size, 2, none⟩) (.inl rfl) (.string (Rl.tob V))
    have HRF := Lib.hid (HRR.out.upd hpf (fun e => hqR e) (fun b o e _ h9 => by have := HRR.out.lo.2 b o e; omega))
    have HBZ := Lib.hid hbrz
    clear hbrz hu5 hp5 hpf r0 r1 r2 f0 f1 f2 hb5
    cases mb with
    | true =>
      go_wp2_with fail
      refine ret_atom Tryz.results99 w.heap.size _ HBZ.out rfl rfl rfl ?_
      rw [HAP.out, Rl.may_yes HME.out]
      exact ⟨HUF.out, by rw [← HX.out]; rfl, A9, n9, c9, HRF.out, hn9⟩
    | false =>
      go_wp2_with fail
      refine ret_atom Tryz.results99 w.heap.size _ HBZ.out rfl rfl rfl ?_
      rw [HAP.out, Rl.may_no HME.out]
      exact ⟨HUF.out, _, _, _, rfl⟩
end Go.Proofs.YtjkaigfpjebfbaaGreatDoor
