/- Callees that leave the world as it was, met in a region that draws its order. -/
import Derived.Lib.QuietBelow
import Derived.BigQuiet
namespace Go.Proofs.Ytiiegimnnngnnaa
open Go.Sort Go.RowKit
theorem regrown_same {P : Program} {f : FuncId} {args : Array Value} {w : World} {d : Nat} {os : Array Obj} {v : Value}
    (h : Calls P f args (grow (redrawn w d) os) fun e w' => e = .returned v ∧ grow (redrawn w d) os = w') : Calls P f args (grow (redrawn w d) os) fun e w'' => e = .returned v ∧ ∃ p : Regrown, w'' = grow (redrawn w p.d) p.os :=
  h.mono fun _ _ ⟨he, hb⟩ => ⟨he, ⟨d, os⟩, hb.symm⟩
end Go.Proofs.Ytiiegimnnngnnaa
