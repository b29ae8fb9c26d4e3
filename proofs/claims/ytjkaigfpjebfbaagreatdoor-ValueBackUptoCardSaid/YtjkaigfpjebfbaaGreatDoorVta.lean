/- Type assertions at each kind of value. -/
import Derived.Test.YtjkaigfpjebfbaaGreatDoorVf
import Derived.KernelRfl
namespace Go.Proofs.YtjkaigfpjebfbaaGreatDoor
open Go.RowKit
set_option linter.unusedVariables false

def vText (s : ByteArray) : Value := .iface 9 (.string s)
def vCount (n : Int) : Value := .iface 3 (.int .i64 n)
def vYes (b : Bool) : Value := .iface 4 (.bool b)
def vClauses (v : Value) : Value := .iface 22 v
def vAtoms (v : Value) : Value := .iface 23 v
def vProvides (v : Value) : Value := .iface 24 v
theorem ta_text_text (s : ByteArray) (w : World) : (Instr.typeAssert (vText s) 20 9 true).run Tryz.prog w = .ok (.tuple #[.string s, .bool true]) w := by kernel_rfl
theorem tb_text (s : ByteArray) (w : World) : (Instr.typeAssert (vText s) 20 9 false).run Tryz.prog w = .ok (.string s) w := by kernel_rfl
theorem ta_text_count (s : ByteArray) (w : World) : (Instr.typeAssert (vText s) 20 3 true).run Tryz.prog w = .ok (.tuple #[.int .i64 0, .bool false]) w := by kernel_rfl
theorem ta_text_yes (s : ByteArray) (w : World) : (Instr.typeAssert (vText s) 20 4 true).run Tryz.prog w = .ok (.tuple #[.bool false, .bool false]) w := by kernel_rfl
theorem ta_text_clauses (s : ByteArray) (w : World) : (Instr.typeAssert (vText s) 20 22 true).run Tryz.prog w = .ok (.tuple #[.slice none 0 0, .bool false]) w := by kernel_rfl
theorem ta_text_atoms (s : ByteArray) (w : World) : (Instr.typeAssert (vText s) 20 23 true).run Tryz.prog w = .ok (.tuple #[.slice none 0 0, .bool false]) w := by kernel_rfl
theorem ta_text_provides (s : ByteArray) (w : World) : (Instr.typeAssert (vText s) 20 24 true).run Tryz.prog w = .ok (.tuple #[.slice none 0 0, .bool false]) w := by kernel_rfl
theorem ta_count_text (n : Int) (w : World) : (Instr.typeAssert (vCount n) 20 9 true).run Tryz.prog w = .ok (.tuple #[.string ⟨#[]⟩, .bool false]) w := by kernel_rfl
theorem ta_count_count (n : Int) (w : World) : (Instr.typeAssert (vCount n) 20 3 true).run Tryz.prog w = .ok (.tuple #[.int .i64 n, .bool true]) w := by kernel_rfl
theorem tb_count (n : Int) (w : World) : (Instr.typeAssert (vCount n) 20 3 false).run Tryz.prog w = .ok (.int .i64 n) w := by kernel_rfl
theorem ta_count_yes (n : Int) (w : World) : (Instr.typeAssert (vCount n) 20 4 true).run Tryz.prog w = .ok (.tuple #[.bool false, .bool false]) w := by kernel_rfl
theorem ta_count_clauses (n : Int) (w : World) : (Instr.typeAssert (vCount n) 20 22 true).run Tryz.prog w = .ok (.tuple #[.slice none 0 0, .bool false]) w := by kernel_rfl
theorem ta_count_atoms (n : Int) (w : World) : (Instr.typeAssert (vCount n) 20 23 true).run Tryz.prog w = .ok (.tuple #[.slice none 0 0, .bool false]) w := by kernel_rfl
theorem ta_count_provides (n : Int) (w : World) : (Instr.typeAssert (vCount n) 20 24 true).run Tryz.prog w = .ok (.tuple #[.slice none 0 0, .bool false]) w := by kernel_rfl
theorem ta_yes_text (b : Bool) (w : World) : (Instr.typeAssert (vYes b) 20 9 true).run Tryz.prog w = .ok (.tuple #[.string ⟨#[]⟩, .bool false]) w := by kernel_rfl
theorem ta_yes_count (b : Bool) (w : World) : (Instr.typeAssert (vYes b) 20 3 true).run Tryz.prog w = .ok (.tuple #[.int .i64 0, .bool false]) w := by kernel_rfl
theorem ta_yes_yes (b : Bool) (w : World) : (Instr.typeAssert (vYes b) 20 4 true).run Tryz.prog w = .ok (.tuple #[.bool b, .bool true]) w := by kernel_rfl
theorem tb_yes (b : Bool) (w : World) : (Instr.typeAssert (vYes b) 20 4 false).run Tryz.prog w = .ok (.bool b) w := by kernel_rfl
theorem ta_yes_clauses (b : Bool) (w : World) : (Instr.typeAssert (vYes b) 20 22 true).run Tryz.prog w = .ok (.tuple #[.slice none 0 0, .bool false]) w := by kernel_rfl
theorem ta_yes_atoms (b : Bool) (w : World) : (Instr.typeAssert (vYes b) 20 23 true).run Tryz.prog w = .ok (.tuple #[.slice none 0 0, .bool false]) w := by kernel_rfl
theorem ta_yes_provides (b : Bool) (w : World) : (Instr.typeAssert (vYes b) 20 24 true).run Tryz.prog w = .ok (.tuple #[.slice none 0 0, .bool false]) w := by kernel_rfl
theorem ta_clauses_text (v : Value) (w : World) : (Instr.typeAssert (vClauses v) 20 9 true).run Tryz.prog w = .ok (.tuple #[.string ⟨#[]⟩, .bool false]) w := by kernel_rfl
theorem ta_clauses_count (v : Value) (w : World) : (Instr.typeAssert (vClauses v) 20 3 true).run Tryz.prog w = .ok (.tuple #[.int .i64 0, .bool false]) w := by kernel_rfl
theorem ta_clauses_yes (v : Value) (w : World) : (Instr.typeAssert (vClauses v) 20 4 true).run Tryz.prog w = .ok (.tuple #[.bool false, .bool false]) w := by kernel_rfl
theorem ta_clauses_clauses (v : Value) (w : World) : (Instr.typeAssert (vClauses v) 20 22 true).run Tryz.prog w = .ok (.tuple #[v, .bool true]) w := by kernel_rfl
theorem tb_clauses (v : Value) (w : World) : (Instr.typeAssert (vClauses v) 20 22 false).run Tryz.prog w = .ok (v) w := by kernel_rfl
theorem ta_clauses_atoms (v : Value) (w : World) : (Instr.typeAssert (vClauses v) 20 23 true).run Tryz.prog w = .ok (.tuple #[.slice none 0 0, .bool false]) w := by kernel_rfl
theorem ta_clauses_provides (v : Value) (w : World) : (Instr.typeAssert (vClauses v) 20 24 true).run Tryz.prog w = .ok (.tuple #[.slice none 0 0, .bool false]) w := by kernel_rfl
theorem ta_atoms_text (v : Value) (w : World) : (Instr.typeAssert (vAtoms v) 20 9 true).run Tryz.prog w = .ok (.tuple #[.string ⟨#[]⟩, .bool false]) w := by kernel_rfl
theorem ta_atoms_count (v : Value) (w : World) : (Instr.typeAssert (vAtoms v) 20 3 true).run Tryz.prog w = .ok (.tuple #[.int .i64 0, .bool false]) w := by kernel_rfl
theorem ta_atoms_yes (v : Value) (w : World) : (Instr.typeAssert (vAtoms v) 20 4 true).run Tryz.prog w = .ok (.tuple #[.bool false, .bool false]) w := by kernel_rfl
theorem ta_atoms_clauses (v : Value) (w : World) : (Instr.typeAssert (vAtoms v) 20 22 true).run Tryz.prog w = .ok (.tuple #[.slice none 0 0, .bool false]) w := by kernel_rfl
theorem ta_atoms_atoms (v : Value) (w : World) : (Instr.typeAssert (vAtoms v) 20 23 true).run Tryz.prog w = .ok (.tuple #[v, .bool true]) w := by kernel_rfl
theorem tb_atoms (v : Value) (w : World) : (Instr.typeAssert (vAtoms v) 20 23 false).run Tryz.prog w = .ok (v) w := by kernel_rfl
theorem ta_atoms_provides (v : Value) (w : World) : (Instr.typeAssert (vAtoms v) 20 24 true).run Tryz.prog w = .ok (.tuple #[.slice none 0 0, .bool false]) w := by kernel_rfl
theorem ta_provides_text (v : Value) (w : World) : (Instr.typeAssert (vProvides v) 20 9 true).run Tryz.prog w = .ok (.tuple #[.string ⟨#[]⟩, .bool false]) w := by kernel_rfl
theorem ta_provides_count (v : Value) (w : World) : (Instr.typeAssert (vProvides v) 20 3 true).run Tryz.prog w = .ok (.tuple #[.int .i64 0, .bool false]) w := by kernel_rfl
theorem ta_provides_yes (v : Value) (w : World) : (Instr.typeAssert (vProvides v) 20 4 true).run Tryz.prog w = .ok (.tuple #[.bool false, .bool false]) w := by kernel_rfl
theorem ta_provides_clauses (v : Value) (w : World) : (Instr.typeAssert (vProvides v) 20 22 true).run Tryz.prog w = .ok (.tuple #[.slice none 0 0, .bool false]) w := by kernel_rfl
theorem ta_provides_atoms (v : Value) (w : World) : (Instr.typeAssert (vProvides v) 20 23 true).run Tryz.prog w = .ok (.tuple #[.slice none 0 0, .bool false]) w := by kernel_rfl
theorem ta_provides_provides (v : Value) (w : World) : (Instr.typeAssert (vProvides v) 20 24 true).run Tryz.prog w = .ok (.tuple #[v, .bool true]) w := by kernel_rfl
theorem tb_provides (v : Value) (w : World) : (Instr.typeAssert (vProvides v) 20 24 false).run Tryz.prog w = .ok (v) w := by kernel_rfl
theorem ta_none_text  (w : World) : (Instr.typeAssert .nilIface 20 9 true).run Tryz.prog w = .ok (.tuple #[.string ⟨#[]⟩, .bool false]) w := by kernel_rfl
theorem ta_none_count  (w : World) : (Instr.typeAssert .nilIface 20 3 true).run Tryz.prog w = .ok (.tuple #[.int .i64 0, .bool false]) w := by kernel_rfl
theorem ta_none_yes  (w : World) : (Instr.typeAssert .nilIface 20 4 true).run Tryz.prog w = .ok (.tuple #[.bool false, .bool false]) w := by kernel_rfl
theorem ta_none_clauses  (w : World) : (Instr.typeAssert .nilIface 20 22 true).run Tryz.prog w = .ok (.tuple #[.slice none 0 0, .bool false]) w := by kernel_rfl
theorem ta_none_atoms  (w : World) : (Instr.typeAssert .nilIface 20 23 true).run Tryz.prog w = .ok (.tuple #[.slice none 0 0, .bool false]) w := by kernel_rfl
theorem ta_none_provides  (w : World) : (Instr.typeAssert .nilIface 20 24 true).run Tryz.prog w = .ok (.tuple #[.slice none 0 0, .bool false]) w := by kernel_rfl
end Go.Proofs.YtjkaigfpjebfbaaGreatDoor
