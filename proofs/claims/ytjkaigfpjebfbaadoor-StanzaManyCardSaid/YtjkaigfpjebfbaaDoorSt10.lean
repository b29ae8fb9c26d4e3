/- chandlerref4.Stanzas: what its locals hold. -/
import Derived.Test.YtjkaigfpjebfbaaDoorSt9
import Derived.Test.YtjkaigfpjebfbaaDoorRefLines
import Derived.Test.YtjkaigfpjebfbaaDoorB5
namespace Go.Proofs.YtjkaigfpjebfbaaDoor
open Go.RowKit
set_option linter.unusedVariables false

/-- The locals: what is read, whether a stanza is open. -/
def LdS (w : World) (base : Nat) (v : Value) (b : Bool) : PS → Prop
  | .shut L => ∃ G A c xs, v = .slice A L.length c ∧ b = false ∧ Shu w base G A c xs L ∧ ∀ k, G k → base ≤ k
  | .opn Lp ln Fp nm ls => ∃ G ko co kf cf kl cl xs fx, v = .slice (some ⟨ko, 0, none⟩) (Lp.length + 1) co ∧ b = true ∧ Opn w base G ko co kf cf kl cl xs fx Lp ln Fp nm ls ∧ ∀ k, G k → base ≤ k
theorem LdS.new (w : World) (base : Nat) : LdS w base (.slice none 0 0) false (.shut []) := ⟨fun _ => False, none, 0, [], rfl, rfl, Shu.nil w base, fun _ h => h.elim⟩
theorem LdS.upd {w w' : World} {base : Nat} {v : Value} {b : Bool} (hu : Upd (fun _ => False) w w') : ∀ {σ : PS}, LdS w base v b σ → LdS w' base v b σ
  | .shut L, h => by
    obtain ⟨G, A, c, xs, e1, e2, ho, hG⟩ := h
    exact ⟨G, A, c, xs, e1, e2, ho.upd hu (fun _ _ h => h) (fun _ _ h => h), hG⟩
  | .opn Lp ln Fp nm ls, h => by
    obtain ⟨G, ko, co, kf, cf, kl, cl, xs, fx, e1, e2, ho, hG⟩ := h
    exact ⟨G, ko, co, kf, cf, kl, cl, xs, fx, e1, e2, ho.upd hu (fun h => h) (fun h => h) (fun h => h) (fun _ _ h => h), hG⟩
theorem LdS.blank {w : World} {base : Nat} {v : Value} {b : Bool} : ∀ {σ : PS}, LdS w base v b σ → LdS w base v false (.shut σ.all)
  | .shut L, h => by
    obtain ⟨G, A, c, xs, e1, e2, ho, hG⟩ := h
    exact ⟨G, A, c, xs, e1, rfl, ho, hG⟩
  | .opn Lp ln Fp nm ls, h => by
    obtain ⟨G, ko, co, kf, cf, kl, cl, xs, fx, e1, e2, ho, hG⟩ := h
    have hlen : (Lp ++ [(⟨ln, Fp ++ [⟨nm, ls⟩]⟩ : St)]).length = Lp.length + 1 := by simp
    refine ⟨_, _, co, _, ?_, rfl, ho.close, fun k hk => ?_⟩
    · rw [e1]
      show _ = Value.slice _ (Lp ++ [(⟨ln, Fp ++ [⟨nm, ls⟩]⟩ : St)]).length _
      rw [hlen]
    · rcases hk with hk | rfl | rfl
      · exact hG k hk
      · exact (own_is ho.f rfl).1
      · exact (own_is ho.l rfl).1
theorem LdS.shape {w : World} {base : Nat} {v : Value} {b : Bool} : ∀ {σ : PS}, LdS w base v b σ → ∃ A n c, v = .slice A n c
  | .shut L, h => by
    obtain ⟨G, A, c, xs, e1, _⟩ := h
    exact ⟨_, _, _, e1⟩
  | .opn Lp ln Fp nm ls, h => by
    obtain ⟨G, ko, co, kf, cf, kl, cl, xs, fx, e1, _⟩ := h
    exact ⟨_, _, _, e1⟩
theorem LdS.res {w : World} {base : Nat} {v : Value} {b : Bool} {σ : PS} (h : LdS w base v b σ) : ∃ G, StzG w G v σ.all ∧ ∀ k, G k → base ≤ k := by
  obtain ⟨G, A, c, xs, e1, _, ho, hG⟩ := h.blank
  refine ⟨fun k => G k ∨ A = some ⟨k, 0, none⟩, ⟨A, c, xs, e1, own_cap ho.o, RowG.of_own ho.o (fun k e => .inr e), ho.sv.mono (fun k hk => .inl hk)⟩, fun k hk => ?_⟩
  rcases hk with hk | hk
  · exact hG k hk
  · have h9 := ho.o
    rw [hk] at h9
    exact (own_is h9 rfl).1
theorem isRem_facts {s : ByteArray} (h : isRem s = true) : 0 < s.size ∧ byteAt s 0 = 35 := by
  unfold isRem at h
  rw [Bool.and_eq_true, decide_eq_true_eq, decide_eq_true_eq] at h
  exact h
theorem trim_some {s : ByteArray} (h : (trimB s).size ≠ 0) : 0 < s.size := by
  rcases Nat.eq_zero_or_pos s.size with h0 | h0
  · exfalso
    apply h
    have : s = ⟨#[]⟩ := bl_inj (List.eq_nil_of_length_eq_zero h0)
    rw [this]
    rfl
  · exact h0
theorem blk_new2 (w : World) (t t' : TypeId) (cs cs' : Array Value) : Blk (((w.alloc (.cells cs t)).alloc (.cells cs' t')).drew) (w.heap.size + 1) t' cs' := by
  have := Blk.new (w.alloc (.cells cs t)) t' cs'
  rw [World.size_alloc] at this
  exact this
theorem blk_new1 (w : World) (t t' : TypeId) (cs cs' : Array Value) : Blk (((w.alloc (.cells cs t)).alloc (.cells cs' t')).drew) w.heap.size t cs := (Blk.new w t cs).alloc _
theorem size_new2 {w : World} {B : Nat} (h : B ≤ w.heap.size) (o o' : Obj) : B ≤ (((w.alloc o).alloc o').drew).heap.size := by
  show B ≤ ((w.alloc o).alloc o').heap.size
  rw [World.size_alloc, World.size_alloc]
  omega
theorem own_at4 {w : World} {o o' : Obj} {kl' r' c' : Nat} (h : (Value.slice (some ⟨kl', 0, none⟩) r' c').ownBlock = (Value.slice none 0 0).ownBlock ∨ (Value.slice (some ⟨kl', 0, none⟩) r' c').ownBlock = some (((w.alloc o).alloc o').drew).heap.size) : w.heap.size ≤ kl' := by
  rcases h with h | h
  · have e1 : some kl' = none := h
    cases e1
  · have e1 : some kl' = some ((w.alloc o).alloc o').heap.size := h
    injection e1 with e1
    rw [e1, World.size_alloc, World.size_alloc]
    omega
theorem own_at5 {w : World} {o o' : Obj} {kl kl' r r' c c' : Nat} (h : (Value.slice (some ⟨kl', 0, none⟩) r' c').ownBlock = (Value.slice (some ⟨kl, 0, none⟩) r c).ownBlock ∨ (Value.slice (some ⟨kl', 0, none⟩) r' c').ownBlock = some (((w.alloc o).alloc o').drew).heap.size) : kl' = kl ∨ w.heap.size ≤ kl' := by
  rcases h with h | h
  · have e1 : some kl' = some kl := h
    injection e1 with e1
    exact .inl e1
  · have e1 : some kl' = some ((w.alloc o).alloc o').heap.size := h
    injection e1 with e1
    right
    rw [e1, World.size_alloc, World.size_alloc]
    omega
theorem own_far {w : World} {base n c kf : Nat} {e : TypeId} {size : Nat} {xs : List Value} (h : w.ownsRow base e size (.slice (some ⟨kf, 0, none⟩) n c) n xs) : some w.heap.size ≠ (Value.slice (some ⟨kf, 0, none⟩) n c).ownBlock := fun h9 => by
  have h9 : some w.heap.size = some kf := h9
  injection h9 with h9
  obtain ⟨_, cur, hc⟩ := own_is h (k := kf) rfl
  have := Blk.lt hc
  omega
end Go.Proofs.YtjkaigfpjebfbaaDoor
