/- chandlerref4.SameTexts over two rows of the same texts: true. -/
import Derived.Test.YtdchnllflodmkaaDoorRefWords
import Derived.BigQuiet
import Derived.Deep.QuietTactic
namespace Go.Proofs.YtdchnllflodmkaaDoor
open Go.RowKit Go.Shelf Go.Lib
set_option linter.unusedVariables false

def TextsAt (w : World) (v : Value) (l : List ByteArray) : Prop :=
  ∃ ao cap, v = .slice ao l.length cap ∧ ∀ j (h : j < l.length), ∃ g, ao = some ⟨g, 0, none⟩ ∧ w.cell? ⟨g, j, none⟩ = some (.string l[j])
theorem TextsAt.of {w : World} {k : Nat} {v : Value} {l : List ByteArray} (h : w.ownsRow k 9 1 v l.length (l.map Value.string)) : TextsAt w v l := by
  rcases h.2 with ⟨rfl, hn⟩ | ⟨g, cap, cur, rfl, _⟩
  · exact ⟨none, 0, by rw [hn], fun j hj => by omega⟩
  · refine ⟨_, cap, rfl, fun j hj => ⟨g, rfl, ?_⟩⟩
    rw [h.cellAt j (by omega)]
    simp [hj]
set_option maxRecDepth 100000 in
set_option maxHeartbeats 1000000 in
theorem SameTexts_any (l : List ByteArray) (v1 v2 : Value) (w : World) (h1 : TextsAt w v1 l) (h2 : TextsAt w v2 l) (hl : l.length ≤ 9223372036854775807) :
    Calls Tryd.prog 19 #[v1, v2] w fun e w' => e = .returned (.bool true) ∧ Below w.heap.size w w' := by
  obtain ⟨a1, c1, rfl, hc1⟩ := h1
  obtain ⟨a2, c2, rfl, hc2⟩ := h2
  have HC1 := Lib.hid hc1
  have HC2 := Lib.hid hc2
  clear hc1 hc2
  obtain ⟨wo, rfl⟩ : ∃ wo : World, wo = w := ⟨_, rfl⟩
  go_enter Tryd.func19, Tryd.ntmps19
  go_wp2
  go_loopw [13] (fun p wr => ∃ i : Nat, p = .int .i64 i ∧ Below wo.heap.size wo wr ∧ Hid (∀ a, wr.cell? a = wo.cell? a) ∧ i ≤ l.length) (fun p _ => l.length - (match p with | .int _ a => a.toNat | _ => 0))
  case atStart => exact ⟨0, rfl, Below.refl _ _, Lib.hid (fun _ => rfl), by omega⟩
  case round =>
    obtain ⟨i, rfl, hb, HC, hil⟩ := hrel
    by_cases hlt : i < l.length
    · obtain ⟨g1, rfl, e1⟩ := HC1.out i hlt
      obtain ⟨g2, rfl, e2⟩ := HC2.out i hlt
      have k1 : wr.cell? ⟨g1, i, none⟩ = some (.string l[i]) := (HC.out _).trans e1
      have k2 : wr.cell? ⟨g2, i, none⟩ = some (.string l[i]) := (HC.out _).trans e2
      have HBw := Lib.hid hb
      clear e1 e2 hb
      go_wp2_with fail
      go_quiet (fail)
      go_wp2_with fail
      refine ⟨⟨i + 1, by go_num, HBw.out.trans ⟨rfl, rfl, rfl, Nat.le_refl _, fun _ _ => rfl⟩, Lib.hid (fun a => HC.out a), by omega⟩, ?_⟩
      show l.length - ((i : Int) + 1).toNat < l.length - (i : Int).toNat
      omega
    · go_wp2
      go_ret
      exact ⟨rfl, hb⟩
end Go.Proofs.YtdchnllflodmkaaDoor
