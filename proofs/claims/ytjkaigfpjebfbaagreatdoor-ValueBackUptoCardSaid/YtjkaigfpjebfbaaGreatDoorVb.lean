/- value: values of a kind; Kind, Text, Count, Yes; only, told. -/
import Derived.Test.YtjkaigfpjebfbaaGreatDoorVta
import Derived.Deep.CutRange
namespace Go.Proofs.YtjkaigfpjebfbaaGreatDoor
open Go.RowKit
set_option linter.unusedVariables false

theorem val_size : (Tryz.prog.info? 30).map (·.size) = some 1 := by kernel_rfl
theorem results_val {fn : Func} {p : Tmp} (h : fn.results = #[.cell p 30]) (tmps : Array Value) (w : World) (g : Nat) (cs : Array Value) (hp : tmps.getD p undef = .pointer (some ⟨g, 0, none⟩)) (hg : Blk w g 30 cs) (hs : cs.size = 1) :
    (results fn tmps).run Tryz.prog w = .ok (.agg cs) w := by
  have hp' : tmps[p]?.getD undef = .pointer (some ⟨g, 0, none⟩) := by simpa using hp
  have hl := run_loadVar_row (P := Tryz.prog) w g 30 30 cs (0, 0) _ hg Tryz.underlying30 rfl (by rw [val_size, hs])
  simp [results, h, hp', asAddr, hl]
theorem ret_val {fn : Func} {p : Tmp} {R : Ending → World → Prop} {a : Act} {w : World} (h : fn.results = #[.cell p 30]) (g : Nat) (cs : Array Value) (hg : Blk w g 30 cs) (hs : cs.size = 1)
    (hp : a.tmps.getD p undef = .pointer (some ⟨g, 0, none⟩)) (hd : a.defers = []) (hR : R (.returned (.agg cs)) w) : bodyPost Tryz.prog fn R .ret a w :=
  bodyPost_ret (results_val h _ w g cs hp hg hs) hd hR
theorem results_val2 {fn : Func} {t p : Tmp} (h : fn.results = #[.cell p 30, .tmp t]) (tmps : Array Value) (w : World) (g : Nat) (cs : Array Value) (hp : tmps.getD p undef = .pointer (some ⟨g, 0, none⟩)) (hg : Blk w g 30 cs) (hs : cs.size = 1) :
    (results fn tmps).run Tryz.prog w = .ok (.tuple #[.agg cs, tmps.getD t undef]) w := by
  have hp' : tmps[p]?.getD undef = .pointer (some ⟨g, 0, none⟩) := by simpa using hp
  have hl := run_loadVar_row (P := Tryz.prog) w g 30 30 cs (0, 0) _ hg Tryz.underlying30 rfl (by rw [val_size, hs])
  simp [results, h, hp', asAddr, hl]
theorem ret_val2 {fn : Func} {t p : Tmp} {R : Ending → World → Prop} {a : Act} {w : World} (h : fn.results = #[.cell p 30, .tmp t]) (g : Nat) (cs : Array Value) (hg : Blk w g 30 cs) (hs : cs.size = 1)
    (hp : a.tmps.getD p undef = .pointer (some ⟨g, 0, none⟩)) (hd : a.defers = []) (hR : R (.returned (.tuple #[.agg cs, a.tmps.getD t undef])) w) : bodyPost Tryz.prog fn R .ret a w :=
  bodyPost_ret (results_val2 h _ w g cs hp hg hs) hd hR
set_option maxRecDepth 100000 in
theorem OfText_any (s : ByteArray) (w : World) : Calls Tryz.prog 23 #[.string s] w fun e w' => e = .returned (.agg #[vText s]) ∧ Below w.heap.size w w' := by
  go_enter Tryz.func23, Tryz.ntmps23
  go_wp2_with fail
  refine ret_val Tryz.results23 w.heap.size #[vText s] (Blk.new w _ _) rfl rfl rfl ⟨rfl, ?_⟩
  exact (Below.refl _ w).alloc (Nat.le_refl _) _
set_option maxRecDepth 100000 in
theorem OfCount_any (n : Int) (w : World) : Calls Tryz.prog 24 #[.int .i64 n] w fun e w' => e = .returned (.agg #[vCount n]) ∧ Below w.heap.size w w' := by
  go_enter Tryz.func24, Tryz.ntmps24
  go_wp2_with fail
  refine ret_val Tryz.results24 w.heap.size #[vCount n] (Blk.new w _ _) rfl rfl rfl ⟨rfl, ?_⟩
  exact (Below.refl _ w).alloc (Nat.le_refl _) _
set_option maxRecDepth 100000 in
theorem OfYes_any (b : Bool) (w : World) : Calls Tryz.prog 25 #[.bool b] w fun e w' => e = .returned (.agg #[vYes b]) ∧ Below w.heap.size w w' := by
  go_enter Tryz.func25, Tryz.ntmps25
  go_wp2_with fail
  refine ret_val Tryz.results25 w.heap.size #[vYes b] (Blk.new w _ _) rfl rfl rfl ⟨rfl, ?_⟩
  exact (Below.refl _ w).alloc (Nat.le_refl _) _
/-- An interface that holds a value of the kth kind. -/
inductive VK : Nat → Value → Prop
  | none : VK 0 .nilIface
  | text (s : ByteArray) : VK 1 (vText s)
  | count (n : Int) : VK 2 (vCount n)
  | yes (b : Bool) : VK 3 (vYes b)
  | clauses (A : Option Addr) (n c : Nat) : VK 4 (vClauses (.slice A n c))
  | atoms (A : Option Addr) (n c : Nat) : VK 5 (vAtoms (.slice A n c))
  | provides (A : Option Addr) (n c : Nat) : VK 6 (vProvides (.slice A n c))
def kindB (k : Nat) : ByteArray := if k = 1 then ⟨#[116, 101, 120, 116]⟩ else if k = 2 then ⟨#[99, 111, 117, 110, 116]⟩ else if k = 3 then ⟨#[121, 101, 115]⟩ else if k = 4 then ⟨#[99, 108, 97, 117, 115, 101, 115]⟩ else if k = 5 then ⟨#[97, 116, 111, 109, 115]⟩ else if k = 6 then ⟨#[112, 114, 111, 118, 105, 100, 101, 115]⟩ else ⟨#[110, 111, 110, 101]⟩
set_option maxRecDepth 100000 in
set_option maxHeartbeats 1000000 in
theorem Kind_any {k : Nat} {x : Value} (h : VK k x) (w : World) : Calls Tryz.prog 11 #[.agg #[x]] w fun e w' => e = .returned (.string (kindB k)) ∧ Below w.heap.size w w' := by
  have hb := (Below.refl w.heap.size w).alloc (Nat.le_refl _) (.cells #[x] 30)
  have k0 : (w.alloc (.cells #[x] 30)).cell? ⟨w.heap.size, 0, none⟩ = some x := (Blk.new w _ _).cell 0
  have HB := Lib.hid hb
  clear hb
  cases h with
  | none =>
    have t_text := ta_none_text 
    have t_count := ta_none_count 
    have t_yes := ta_none_yes 
    have t_clauses := ta_none_clauses 
    have t_atoms := ta_none_atoms 
    have t_provides := ta_none_provides 
    go_enter Tryz.func11, Tryz.ntmps11
    go_wp2_with fail
    go_ret
    exact ⟨rfl, HB.out⟩
  | text s =>
    have t_text := ta_text_text s
    go_enter Tryz.func11, Tryz.ntmps11
    go_wp2_with fail
    go_ret
    exact ⟨rfl, HB.out⟩
  | count n =>
    have t_text := ta_count_text n
    have t_count := ta_count_count n
    go_enter Tryz.func11, Tryz.ntmps11
    go_wp2_with fail
    go_ret
    exact ⟨rfl, HB.out⟩
  | yes b =>
    have t_text := ta_yes_text b
    have t_count := ta_yes_count b
    have t_yes := ta_yes_yes b
    go_enter Tryz.func11, Tryz.ntmps11
    go_wp2_with fail
    go_ret
    exact ⟨rfl, HB.out⟩
  | clauses A n c =>
    have t_text := ta_clauses_text (.slice A n c)
    have t_count := ta_clauses_count (.slice A n c)
    have t_yes := ta_clauses_yes (.slice A n c)
    have t_clauses := ta_clauses_clauses (.slice A n c)
    go_enter Tryz.func11, Tryz.ntmps11
    go_wp2_with fail
    go_ret
    exact ⟨rfl, HB.out⟩
  | atoms A n c =>
    have t_text := ta_atoms_text (.slice A n c)
    have t_count := ta_atoms_count (.slice A n c)
    have t_yes := ta_atoms_yes (.slice A n c)
    have t_clauses := ta_atoms_clauses (.slice A n c)
    have t_atoms := ta_atoms_atoms (.slice A n c)
    go_enter Tryz.func11, Tryz.ntmps11
    go_wp2_with fail
    go_ret
    exact ⟨rfl, HB.out⟩
  | provides A n c =>
    have t_text := ta_provides_text (.slice A n c)
    have t_count := ta_provides_count (.slice A n c)
    have t_yes := ta_provides_yes (.slice A n c)
    have t_clauses := ta_provides_clauses (.slice A n c)
    have t_atoms := ta_provides_atoms (.slice A n c)
    have t_provides := ta_provides_provides (.slice A n c)
    go_enter Tryz.func11, Tryz.ntmps11
    go_wp2_with fail
    go_ret
    exact ⟨rfl, HB.out⟩
/-- What a value is as a text. -/
def asText (x : Value) : Value × Bool := match x with
  | .iface t u => if t = 9 then (u, true) else ((.string ⟨#[]⟩), false)
  | _ => ((.string ⟨#[]⟩), false)
set_option maxRecDepth 100000 in
set_option maxHeartbeats 1000000 in
theorem Text_any {k : Nat} {x : Value} (h : VK k x) (w : World) : Calls Tryz.prog 12 #[.agg #[x]] w fun e w' => e = .returned (.tuple #[(asText x).1, .bool (asText x).2]) ∧ Below w.heap.size w w' := by
  have hb := (Below.refl w.heap.size w).alloc (Nat.le_refl _) (.cells #[x] 30)
  have k0 : (w.alloc (.cells #[x] 30)).cell? ⟨w.heap.size, 0, none⟩ = some x := (Blk.new w _ _).cell 0
  have HB := Lib.hid hb
  clear hb
  cases h with
  | none =>
    have t_text := ta_none_text 
    go_enter Tryz.func12, Tryz.ntmps12
    go_wp2_with fail
    exact bodyPost_ret (v := .tuple #[(.string ⟨#[]⟩), .bool false]) (by simp [results, Tryz.results12, go_sem]) rfl ⟨rfl, HB.out⟩
  | text s =>
    have t_text := ta_text_text s
    go_enter Tryz.func12, Tryz.ntmps12
    go_wp2_with fail
    exact bodyPost_ret (v := .tuple #[.string s, .bool true]) (by simp [results, Tryz.results12, go_sem]) rfl ⟨rfl, HB.out⟩
  | count n =>
    have t_text := ta_count_text n
    go_enter Tryz.func12, Tryz.ntmps12
    go_wp2_with fail
    exact bodyPost_ret (v := .tuple #[(.string ⟨#[]⟩), .bool false]) (by simp [results, Tryz.results12, go_sem]) rfl ⟨rfl, HB.out⟩
  | yes b =>
    have t_text := ta_yes_text b
    go_enter Tryz.func12, Tryz.ntmps12
    go_wp2_with fail
    exact bodyPost_ret (v := .tuple #[(.string ⟨#[]⟩), .bool false]) (by simp [results, Tryz.results12, go_sem]) rfl ⟨rfl, HB.out⟩
  | clauses A n c =>
    have t_text := ta_clauses_text (.slice A n c)
    go_enter Tryz.func12, Tryz.ntmps12
    go_wp2_with fail
    exact bodyPost_ret (v := .tuple #[(.string ⟨#[]⟩), .bool false]) (by simp [results, Tryz.results12, go_sem]) rfl ⟨rfl, HB.out⟩
  | atoms A n c =>
    have t_text := ta_atoms_text (.slice A n c)
    go_enter Tryz.func12, Tryz.ntmps12
    go_wp2_with fail
    exact bodyPost_ret (v := .tuple #[(.string ⟨#[]⟩), .bool false]) (by simp [results, Tryz.results12, go_sem]) rfl ⟨rfl, HB.out⟩
  | provides A n c =>
    have t_text := ta_provides_text (.slice A n c)
    go_enter Tryz.func12, Tryz.ntmps12
    go_wp2_with fail
    exact bodyPost_ret (v := .tuple #[(.string ⟨#[]⟩), .bool false]) (by simp [results, Tryz.results12, go_sem]) rfl ⟨rfl, HB.out⟩
/-- What a value is as a count. -/
def asCount (x : Value) : Value × Bool := match x with
  | .iface t u => if t = 3 then (u, true) else ((.int .i64 0), false)
  | _ => ((.int .i64 0), false)
set_option maxRecDepth 100000 in
set_option maxHeartbeats 1000000 in
theorem Count_any {k : Nat} {x : Value} (h : VK k x) (w : World) : Calls Tryz.prog 13 #[.agg #[x]] w fun e w' => e = .returned (.tuple #[(asCount x).1, .bool (asCount x).2]) ∧ Below w.heap.size w w' := by
  have hb := (Below.refl w.heap.size w).alloc (Nat.le_refl _) (.cells #[x] 30)
  have k0 : (w.alloc (.cells #[x] 30)).cell? ⟨w.heap.size, 0, none⟩ = some x := (Blk.new w _ _).cell 0
  have HB := Lib.hid hb
  clear hb
  cases h with
  | none =>
    have t_count := ta_none_count 
    go_enter Tryz.func13, Tryz.ntmps13
    go_wp2_with fail
    exact bodyPost_ret (v := .tuple #[(.int .i64 0), .bool false]) (by simp [results, Tryz.results13, go_sem]) rfl ⟨rfl, HB.out⟩
  | text s =>
    have t_count := ta_text_count s
    go_enter Tryz.func13, Tryz.ntmps13
    go_wp2_with fail
    exact bodyPost_ret (v := .tuple #[(.int .i64 0), .bool false]) (by simp [results, Tryz.results13, go_sem]) rfl ⟨rfl, HB.out⟩
  | count n =>
    have t_count := ta_count_count n
    go_enter Tryz.func13, Tryz.ntmps13
    go_wp2_with fail
    exact bodyPost_ret (v := .tuple #[.int .i64 n, .bool true]) (by simp [results, Tryz.results13, go_sem]) rfl ⟨rfl, HB.out⟩
  | yes b =>
    have t_count := ta_yes_count b
    go_enter Tryz.func13, Tryz.ntmps13
    go_wp2_with fail
    exact bodyPost_ret (v := .tuple #[(.int .i64 0), .bool false]) (by simp [results, Tryz.results13, go_sem]) rfl ⟨rfl, HB.out⟩
  | clauses A n c =>
    have t_count := ta_clauses_count (.slice A n c)
    go_enter Tryz.func13, Tryz.ntmps13
    go_wp2_with fail
    exact bodyPost_ret (v := .tuple #[(.int .i64 0), .bool false]) (by simp [results, Tryz.results13, go_sem]) rfl ⟨rfl, HB.out⟩
  | atoms A n c =>
    have t_count := ta_atoms_count (.slice A n c)
    go_enter Tryz.func13, Tryz.ntmps13
    go_wp2_with fail
    exact bodyPost_ret (v := .tuple #[(.int .i64 0), .bool false]) (by simp [results, Tryz.results13, go_sem]) rfl ⟨rfl, HB.out⟩
  | provides A n c =>
    have t_count := ta_provides_count (.slice A n c)
    go_enter Tryz.func13, Tryz.ntmps13
    go_wp2_with fail
    exact bodyPost_ret (v := .tuple #[(.int .i64 0), .bool false]) (by simp [results, Tryz.results13, go_sem]) rfl ⟨rfl, HB.out⟩
/-- What a value is as a yes. -/
def asYes (x : Value) : Value × Bool := match x with
  | .iface t u => if t = 4 then (u, true) else ((.bool false), false)
  | _ => ((.bool false), false)
set_option maxRecDepth 100000 in
set_option maxHeartbeats 1000000 in
theorem Yes_any {k : Nat} {x : Value} (h : VK k x) (w : World) : Calls Tryz.prog 14 #[.agg #[x]] w fun e w' => e = .returned (.tuple #[(asYes x).1, .bool (asYes x).2]) ∧ Below w.heap.size w w' := by
  have hb := (Below.refl w.heap.size w).alloc (Nat.le_refl _) (.cells #[x] 30)
  have k0 : (w.alloc (.cells #[x] 30)).cell? ⟨w.heap.size, 0, none⟩ = some x := (Blk.new w _ _).cell 0
  have HB := Lib.hid hb
  clear hb
  cases h with
  | none =>
    have t_yes := ta_none_yes 
    go_enter Tryz.func14, Tryz.ntmps14
    go_wp2_with fail
    exact bodyPost_ret (v := .tuple #[(.bool false), .bool false]) (by simp [results, Tryz.results14, go_sem]) rfl ⟨rfl, HB.out⟩
  | text s =>
    have t_yes := ta_text_yes s
    go_enter Tryz.func14, Tryz.ntmps14
    go_wp2_with fail
    exact bodyPost_ret (v := .tuple #[(.bool false), .bool false]) (by simp [results, Tryz.results14, go_sem]) rfl ⟨rfl, HB.out⟩
  | count n =>
    have t_yes := ta_count_yes n
    go_enter Tryz.func14, Tryz.ntmps14
    go_wp2_with fail
    exact bodyPost_ret (v := .tuple #[(.bool false), .bool false]) (by simp [results, Tryz.results14, go_sem]) rfl ⟨rfl, HB.out⟩
  | yes b =>
    have t_yes := ta_yes_yes b
    go_enter Tryz.func14, Tryz.ntmps14
    go_wp2_with fail
    exact bodyPost_ret (v := .tuple #[.bool b, .bool true]) (by simp [results, Tryz.results14, go_sem]) rfl ⟨rfl, HB.out⟩
  | clauses A n c =>
    have t_yes := ta_clauses_yes (.slice A n c)
    go_enter Tryz.func14, Tryz.ntmps14
    go_wp2_with fail
    exact bodyPost_ret (v := .tuple #[(.bool false), .bool false]) (by simp [results, Tryz.results14, go_sem]) rfl ⟨rfl, HB.out⟩
  | atoms A n c =>
    have t_yes := ta_atoms_yes (.slice A n c)
    go_enter Tryz.func14, Tryz.ntmps14
    go_wp2_with fail
    exact bodyPost_ret (v := .tuple #[(.bool false), .bool false]) (by simp [results, Tryz.results14, go_sem]) rfl ⟨rfl, HB.out⟩
  | provides A n c =>
    have t_yes := ta_provides_yes (.slice A n c)
    go_enter Tryz.func14, Tryz.ntmps14
    go_wp2_with fail
    exact bodyPost_ret (v := .tuple #[(.bool false), .bool false]) (by simp [results, Tryz.results14, go_sem]) rfl ⟨rfl, HB.out⟩
end Go.Proofs.YtjkaigfpjebfbaaGreatDoor
