/- A struct that is a result. -/
import Derived.Test.YtjkaigfpjebfbaaDoorProg
import Derived.Test.YtjkaigfpjebfbaaDoorMem
import Derived.Test.YtjkaigfpjebfbaaDoorHeap
import Derived.Laws.Rows
import Derived.Laws.MakeOwn
import Derived.Laws.AppendOwn
import Derived.ProofKit
namespace Go.Proofs.YtjkaigfpjebfbaaDoor
open Go.RowKit
set_option linter.unusedVariables false

theorem at_size : (Tryd.prog.info? 26).map (·.size) = some 2 := by kernel_rfl
/-- A text, a row .. and an error with its line as results. -/
theorem results_at {fn : Func} {t p : Tmp} (h : fn.results = #[.tmp t, .cell p 26]) (tmps : Array Value) (w : World) (g : Nat) (cs : Array Value) (hp : tmps.getD p undef = .pointer (some ⟨g, 0, none⟩)) (hg : Blk w g 26 cs) (hs : cs.size = 2) :
    (results fn tmps).run Tryd.prog w = .ok (.tuple #[tmps.getD t undef, .agg cs]) w := by
  have hp' : tmps[p]?.getD undef = .pointer (some ⟨g, 0, none⟩) := by simpa using hp
  have hl := run_loadVar_row (P := Tryd.prog) w g 26 26 cs (0, 0) _ hg Tryd.underlying26 rfl (by rw [at_size, hs])
  simp [results, h, hp', asAddr, hl]
theorem ret_at {fn : Func} {t p : Tmp} {R : Ending → World → Prop} {a : Act} {w : World} (h : fn.results = #[.tmp t, .cell p 26]) (g : Nat) (cs : Array Value) (hg : Blk w g 26 cs) (hs : cs.size = 2)
    (hp : a.tmps.getD p undef = .pointer (some ⟨g, 0, none⟩)) (hd : a.defers = []) (hR : R (.returned (.tuple #[a.tmps.getD t undef, .agg cs])) w) : bodyPost Tryd.prog fn R .ret a w :=
  bodyPost_ret (results_at h _ w g cs hp hg hs) hd hR
end Go.Proofs.YtjkaigfpjebfbaaDoor
