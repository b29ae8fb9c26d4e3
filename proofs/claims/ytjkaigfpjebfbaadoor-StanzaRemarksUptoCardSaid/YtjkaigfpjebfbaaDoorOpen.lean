/- Arguments that came in, opened: what the walks ask of them. -/
import Derived.Test.YtjkaigfpjebfbaaDoorRows
import Derived.Test.YtjkaigfpjebfbaaDoorB2
import Derived.ProofKit
import Derived.OpenShut
import Derived.SizedLaws
namespace Go.Proofs.YtjkaigfpjebfbaaDoor
open Go.ChangeShapes Go.WideShapes Go.ChangeAt Go.RowKit
set_option linter.unusedVariables false

section
variable {H : Type} {enc : TypeId × Value → H} {W : World} {base : Nat}
theorem bulk_one (d : DataW H) : 1 ≤ Rows.uptoBulk d := by
  cases d with
  | lit l => cases l <;> simp [Rows.uptoBulk]
  | nil => simp [Rows.uptoBulk]
  | ptr d => simp [Rows.uptoBulk]
  | slice elems spare => simp [Rows.uptoBulk]
  | agg parts => simp [Rows.uptoBulk]
  | iface t d => simp [Rows.uptoBulk]
  | map entries => simp [Rows.uptoBulk]
  | held h => simp [Rows.uptoBulk]
theorem bulk_length (l : List (DataW H)) : l.length ≤ Rows.uptoBulkAll l := by
  induction l with
  | nil => simp [Rows.uptoBulkAll]
  | cons x r ih => have := bulk_one x; simp only [Rows.uptoBulkAll, List.length_cons]; omega

theorem add_none (b o j : Nat) : (⟨b, o, none⟩ : Addr).add j = ⟨b, o + j, none⟩ := by unfold Addr.add; split <;> simp_all
set_option maxRecDepth 100000 in
theorem open_bytes {v : Value} {d : DataW H} {p : List MemPlace} (h : DataW.Trod enc Tryd.prog W 0 (fun _ => true) true 22 v d p) (o : Value.okWide Tryd.prog W .any base 22 v) :
    ∃ A n cp bs, v = .slice A n cp ∧ Bytes W A n bs ∧ n ≤ cp ∧ cp ≤ maxLen ∧ n ≤ Rows.uptoBulk d ∧
      (∀ (ts : List TypeId) (ds : List (DataW H)) (j : Nat), (DataW.weightsEach Tryd.prog ts ds).all (· ≤ reachBytes) = true → ts[j]? = some 22 → ds[j]? = some d → cp ≤ 140737488355328) := by
  obtain ⟨a0, len0, cap0, rfl⟩ := okWide_slice Tryd.underlying22 o
  obtain ⟨fuel, hf⟩ := h
  rcases open_ints Tryd.underlying22 Tryd.underlying5 (by kernel_rfl) hf with ⟨hcs, hx⟩ | ⟨x, l, c, zs, hcs, _, hl, hm, hz, hx, hcell, hwz⟩
  · simp [Value.cells] at hcs
    obtain ⟨rfl, rfl, rfl⟩ := hcs
    exact ⟨none, 0, 0, [], rfl, Bytes.nil W, Nat.le_refl _, Nat.zero_le _, Nat.zero_le _, fun _ _ _ _ _ _ => Nat.zero_le _⟩
  · simp [Value.cells] at hcs
    obtain ⟨rfl, rfl, rfl⟩ := hcs
    have hzl : zs.length = cap0 := by simpa using hz
    have hr : ∀ n ∈ zs, 0 ≤ n ∧ n ≤ 255 := fun n hn => by
      have := hwz n hn
      simpa [Lit.wf, IntKind.min, IntKind.max, IntKind.signed, IntKind.bits] using this
    refine ⟨_, len0, cap0, (zs.take len0).map Int.toNat, rfl, ⟨by simp; omega, ?_, fun h0 => ?_⟩, hl, hm, ?_, ?_⟩
    · intro y hy
      obtain ⟨z, hz1, rfl⟩ := List.mem_map.1 hy
      have := hr z (List.mem_of_mem_take hz1)
      omega
    · obtain ⟨b, off, spot⟩ := x
      have hc0 := hcell 0 (by omega)
      have hspot : spot = none := by simpa [Addr.add] using World.cell?_spot hc0
      subst hspot
      refine ⟨b, off, rfl, lt_of_cell (by simpa [Addr.add] using hc0), fun k hk => ?_⟩
      have hck := hcell k (by omega)
      have hkz : k < zs.length := by omega
      have e1 : zs.getD k 0 = zs[k] := by simp [List.getD, hkz]
      have e2 : (((zs.take len0).map Int.toNat).getD k 0 : Nat) = (zs[k]).toNat := by simp [List.getD, hk, hkz]
      have := hr zs[k] (List.getElem_mem hkz)
      rw [add_none] at hck
      rw [e2, Int.toNat_of_nonneg this.1, ← e1, ← hck]
    · have e := congrArg Prod.fst hx
      simp only at e
      rw [e]
      simp only [Rows.uptoBulk]
      have := bulk_length (H := H) (lits .u8 (zs.take len0))
      have e3 : (lits (H := H) .u8 (zs.take len0)).length = len0 := by simp [lits]; omega
      rw [e3] at this
      omega
    · intro ts ds j hz ht hd
      have e := congrArg Prod.fst hx
      simp only at e
      rw [e] at hd
      have := sized_slice hz ht hd Tryd.underlying22
      rw [show Tryd.prog.bytesOf 5 = 1 by kernel_rfl] at this
      have hr2 := reachBytes_lt
      have e4 : (lits (H := H) .u8 (zs.take len0)).length + (lits (H := H) .u8 (zs.drop len0)).length = cap0 := by simp [lits]; omega
      rw [e4] at this
      omega
end
end Go.Proofs.YtjkaigfpjebfbaaDoor
