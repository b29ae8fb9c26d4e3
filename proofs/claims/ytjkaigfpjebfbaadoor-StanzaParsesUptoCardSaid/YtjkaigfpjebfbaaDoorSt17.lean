/- How much a text's stanzas are. -/
import Derived.Test.YtjkaigfpjebfbaaDoorSt9
namespace Go.Proofs.YtjkaigfpjebfbaaDoor
open Go.RowKit
set_option linter.unusedVariables false

def Lim (k : Nat) (L : List St) : Prop := L.length ≤ 200 ∧ ∀ s ∈ L, s.fs.length ≤ 40 ∧ ∀ f ∈ s.fs, f.ls.length ≤ k
theorem Lim.mono {k k' : Nat} (hk : k ≤ k') {L : List St} (h : Lim k L) : Lim k' L := ⟨h.1, fun s hs => ⟨(h.2 s hs).1, fun f hf => Nat.le_trans ((h.2 s hs).2 f hf) hk⟩⟩
theorem Lim.last {k k' : Nat} {Lp : List St} {l0 l1 : Int} {fs fs' : List Fd} (h : Lim k (Lp ++ [⟨l0, fs⟩])) (hk : k ≤ k') (h1 : fs'.length ≤ 40) (h2 : ∀ f ∈ fs', f.ls.length ≤ k') : Lim k' (Lp ++ [⟨l1, fs'⟩]) := by
  have e1 : (Lp ++ [(⟨l0, fs⟩ : St)]).length = Lp.length + 1 := by simp
  have e2 : (Lp ++ [(⟨l1, fs'⟩ : St)]).length = Lp.length + 1 := by simp
  refine ⟨by rw [e2, ← e1]; exact h.1, fun s hs => ?_⟩
  rcases List.mem_append.1 hs with hs | hs
  · have := h.2 s (List.mem_append.2 (.inl hs))
    exact ⟨this.1, fun f hf => Nat.le_trans (this.2 f hf) hk⟩
  · rw [List.mem_singleton] at hs
    subst hs
    exact ⟨h1, h2⟩
theorem Lim.take {k : Nat} {σ σ' : PS} {s : ByteArray} {ln : Int} (h : Lim k σ.all) (ht : takeS s ln σ = .ok σ') : Lim (k + 1) σ'.all := by
  have hm := h.mono (Nat.le_succ k)
  unfold takeS at ht
  split at ht
  · simp only [Except.ok.injEq] at ht; subst ht; exact hm
  split at ht
  · simp only [Except.ok.injEq] at ht; subst ht; exact hm
  split at ht
  · cases σ with
    | shut L => unfold furS at ht; simp at ht
    | opn Lp l0 Fp nm ls =>
      unfold furS at ht
      simp only [Except.ok.injEq] at ht
      subst ht
      have hl := h.2 ⟨l0, Fp ++ [⟨nm, ls⟩]⟩ (List.mem_append.2 (.inr (List.mem_singleton.2 rfl)))
      refine Lim.last (fs := Fp ++ [⟨nm, ls⟩]) (l0 := l0) h (Nat.le_succ k) ?_ (fun f hf => ?_)
      · have := hl.1
        simp only [List.length_append, List.length_singleton] at this ⊢
        exact this
      · rcases List.mem_append.1 hf with hf | hf
        · exact Nat.le_succ_of_le (hl.2 f (List.mem_append.2 (.inl hf)))
        · rw [List.mem_singleton] at hf
          subst hf
          have := hl.2 ⟨nm, ls⟩ (List.mem_append.2 (.inr (List.mem_singleton.2 rfl)))
          show (ls ++ [_]).length ≤ k + 1
          rw [List.length_append, List.length_singleton]
          exact Nat.succ_le_succ this
  · unfold fieldS at ht
    split at ht
    · simp at ht
    · cases σ with
      | shut L =>
        simp only at ht
        split at ht
        · simp at ht
        · next h2 =>
          simp only [Except.ok.injEq] at ht
          subst ht
          have hL : L.length ≤ 200 := h.1
          refine ⟨?_, fun x hx => ?_⟩
          · show (L ++ [_]).length ≤ 200
            rw [List.length_append, List.length_singleton]
            omega
          · rcases List.mem_append.1 hx with hx | hx
            · exact hm.2 x hx
            · rw [List.mem_singleton] at hx
              subst hx
              refine ⟨by show 1 ≤ 40; omega, fun f hf => ?_⟩
              have hf : f ∈ [(⟨_, [_]⟩ : Fd)] := hf
              rw [List.mem_singleton] at hf
              subst hf
              show 1 ≤ k + 1
              omega
      | opn Lp l0 Fp nm ls =>
        simp only at ht
        split at ht
        · simp at ht
        · next h2 =>
          split at ht
          · simp at ht
          · simp only [Except.ok.injEq] at ht
            subst ht
            have hl := h.2 ⟨l0, Fp ++ [⟨nm, ls⟩]⟩ (List.mem_append.2 (.inr (List.mem_singleton.2 rfl)))
            refine Lim.last (fs := Fp ++ [⟨nm, ls⟩]) (l0 := l0) h (Nat.le_succ k) ?_ (fun f hf => ?_)
            · have := hl.1
              simp only [List.length_append, List.length_singleton] at this ⊢
              omega
            · rcases List.mem_append.1 hf with hf | hf
              · exact Nat.le_succ_of_le (hl.2 f hf)
              · rw [List.mem_singleton] at hf
                subst hf
                show 1 ≤ k + 1
                omega
theorem runS_lim : ∀ (M : List ByteArray) (i k : Nat) (σ : PS), Lim k σ.all → Lim (k + M.length) (gotS (runS M i σ))
  | [], i, k, σ, h => h
  | s :: r, i, k, σ, h => by
    cases ht : takeS s ((i : Int) + 1) σ with
    | error e => rw [runS_err ht]; exact ⟨Nat.zero_le _, fun x hx => by cases hx⟩
    | ok σ' =>
      rw [runS_ok ht]
      have := runS_lim r (i + 1) (k + 1) σ' (h.take ht)
      rw [List.length_cons]
      exact this.mono (by omega)
theorem parse_lim (b : ByteArray) : Lim 65537 (gotS (parseS b)) := by
  unfold parseS
  split
  · next h =>
    have h1 := runS_lim (linesGot b) 0 0 (.shut []) ⟨Nat.zero_le _, fun x hx => by cases hx⟩
    exact h1.mono (by have := (got_small h).1; omega)
  · exact ⟨Nat.zero_le _, fun x hx => by cases hx⟩
end Go.Proofs.YtjkaigfpjebfbaaDoor
