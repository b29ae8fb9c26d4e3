/- Put together: What a slice of bytes holds in a world; Words for memory, after the guide's page extra-words (lines that it hands out to be copied): a slice that reads as a list; a block that is known whole; append onto an own row; Which blocks a call may have turned; rows of sectors; A struct that is a result; Stanzas on the heap: as they are read, and as they are built. -/
import Derived.Test.YtjkaigfpjebfbaaDoorProg
import Derived.Test.YtjkaigfpjebfbaaDoorB1
import Derived.Handy
import Derived.Lib.Hide
import Derived.Laws.BitsAllLaws
import Derived.LoopTactic
import Derived.Lib.SlBytesConst
import Derived.Below
import Derived.Laws.OwnMore
import Derived.Deep.AppendLies
import Derived.Deep.Draws
import Derived.Laws.Rows
import Derived.Maps.AppendAt
import Derived.RegionTactic
import Derived.OwnWalk
import Derived.Laws.BytesString
import Derived.Laws.Cells
import Derived.Laws.CopyOwn
import Derived.Laws.MakeOwn
import Derived.Laws.AppendOwn
import Derived.ProofKit
/- What a slice of bytes holds in a world. -/
namespace Go.Proofs.YtjkaigfpjebfbaaDoor
open Go.RowKit

/-- The slice at A, of n bytes, reads as bs. -/
def Bytes (w : World) (A : Option Addr) (n : Nat) (bs : List Nat) : Prop :=
  bs.length = n ∧ (∀ x ∈ bs, x < 256) ∧ (0 < n → ∃ b o, A = some ⟨b, o, none⟩ ∧ b < w.heap.size ∧ ∀ k, k < n → w.cell? ⟨b, o + k, none⟩ = some (.int .u8 ((bs.getD k 0 : Nat) : Int)))

theorem lt_of_cell {w : World} {b o : Nat} {s : Option _} {v : Value} (h : w.cell? ⟨b, o, s⟩ = some v) : b < w.heap.size := by
  rcases Nat.lt_or_ge b w.heap.size with hlt | hge
  · exact hlt
  · unfold World.cell? at h
    simp [Array.getElem?_eq_none hge] at h

theorem Bytes.nil (w : World) : Bytes w none 0 [] := ⟨rfl, by simp, fun h => absurd h (by omega)⟩
theorem Bytes.keep {w w' : World} {A : Option Addr} {n : Nat} {bs : List Nat} (h : Bytes w A n bs) (hk : ∀ p : Addr, p.block < w.heap.size → w'.cell? p = w.cell? p) : Bytes w' A n bs :=
  ⟨h.1, h.2.1, fun hn => by
    obtain ⟨b, o, e, hb, hc⟩ := h.2.2 hn
    have h0 := hc 0 hn
    exact ⟨b, o, e, lt_of_cell ((hk _ hb).trans h0), fun k hkn => (hk _ hb).trans (hc k hkn)⟩⟩
theorem Bytes.below {w w' : World} {A : Option Addr} {n : Nat} {bs : List Nat} (h : Bytes w A n bs) (hb : Below w.heap.size w w') : Bytes w' A n bs :=
  h.keep fun _ hp => hb.cell hp
theorem Bytes.lt {w : World} {A : Option Addr} {n : Nat} {bs : List Nat} (h : Bytes w A n bs) (k : Nat) : bs.getD k 0 < 256 := by
  rcases Nat.lt_or_ge k bs.length with hk | hk
  · rw [List.getD_eq_getElem?_getD, List.getElem?_eq_getElem hk]
    exact h.2.1 _ (List.getElem_mem hk)
  · rw [List.getD_eq_getElem?_getD, List.getElem?_eq_none hk]; simp
theorem Bytes.of_new (w : World) (C : Array Value) (e : TypeId) (fr : Nat × Nat) (n : Nat) (bs : List Nat) (hn : bs.length = n) (h : ∀ x ∈ bs, x < 256) (hc : C.toList = bs.map fun x => Value.int .u8 ((x : Nat) : Int)) : Bytes (w.alloc (.cells C e fr)) (some ⟨w.heap.size, 0, none⟩) n bs := by
  refine ⟨hn, h, fun _ => ⟨_, _, rfl, by simp, fun k hk => ?_⟩⟩
  rw [Nat.zero_add, World.cell?_alloc_mark, ← Array.getElem?_toList, hc, List.getElem?_map, List.getElem?_eq_getElem (by omega), List.getD_eq_getElem?_getD, List.getElem?_eq_getElem (by omega)]
  rfl
theorem take_snoc {α : Type} (l : List α) (k : Nat) (d : α) (h : k < l.length) : l.take (k + 1) = l.take k ++ [l.getD k d] := by
  rw [List.take_succ_eq_append_getElem h, List.getD_eq_getElem?_getD, List.getElem?_eq_getElem h]; rfl
theorem Bytes.take {w : World} {A : Option Addr} {n m : Nat} {bs : List Nat} (h : Bytes w A n bs) (hm : m ≤ n) : Bytes w A m (bs.take m) :=
  ⟨by rw [List.length_take, h.1]; omega, fun x hx => h.2.1 x (List.mem_of_mem_take hx), fun h0 => by
    obtain ⟨b, o, e, hb, hc⟩ := h.2.2 (by omega)
    refine ⟨b, o, e, hb, fun k hk => ?_⟩
    rw [hc k (by omega)]
    simp [hk]⟩
theorem ret_int {k : IntKind} {a b : Int} (h : a = b) : Ending.returned (.int k a) = .returned (.int k b) := by rw [h]
theorem ret_bool {a b : Bool} (h : a = b) : Ending.returned (.bool a) = .returned (.bool b) := by rw [h]
theorem int_eq {k : IntKind} {a b : Int} (h : a = b) : Value.int k a = .int k b := by rw [h]
end Go.Proofs.YtjkaigfpjebfbaaDoor
/- Words for memory, after the guide's page extra-words (lines that it hands out to be copied): a slice that reads as a list; a block that is known whole; append onto an own row. -/
namespace Go.Proofs.YtjkaigfpjebfbaaDoor
open Go.RowKit
theorem block_of_add (a : Addr) (n : Nat) : (a.add n).block = a.block := by unfold Addr.add; split <;> rfl
theorem add_of_add (a : Addr) (i j : Nat) : (a.add i).add j = a.add (i + j) := by
  unfold Addr.add
  by_cases hi : i = 0 <;> by_cases hj : j = 0 <;> simp [hi, hj, Nat.add_assoc]

def Reads (w : World) (B size : Nat) (A : Option Addr) (n : Nat) (xs : List Value) : Prop :=
  xs.length = n * size ∧ (0 < n → ∃ ad, A = some ad ∧ ad.block < B ∧ ∀ j u, xs[j]? = some u → w.cell? (ad.add j) = some u)

section
variable {w w' : World} {B B' size n : Nat} {A : Option Addr} {xs : List Value}
theorem Reads.none_ : Reads w B size A 0 [] := ⟨by simp, fun h => absurd h (by omega)⟩
theorem Reads.at_ {k : Nat} (h : Reads w B 1 A n xs) (hk : k < n) : ∃ ad u, A = some ad ∧ ad.block < B ∧ xs[k]? = some u ∧ w.cell? (ad.add k) = some u := by
  obtain ⟨ad, e, hb, hc⟩ := h.2 (by omega)
  have hl : k < xs.length := by have := h.1; omega
  exact ⟨ad, xs[k], e, hb, List.getElem?_eq_getElem hl, hc k _ (List.getElem?_eq_getElem hl)⟩
theorem Reads.keep (h : Reads w B size A n xs) (hk : ∀ p : Addr, p.block < B → w'.cell? p = w.cell? p) : Reads w' B size A n xs :=
  ⟨h.1, fun hn => by
    obtain ⟨ad, e, hb, hc⟩ := h.2 hn
    exact ⟨ad, e, hb, fun j u hu => (hk _ (by rw [block_of_add]; exact hb)).trans (hc j u hu)⟩⟩
theorem Reads.more (h : Reads w B size A n xs) (hB : B ≤ B') : Reads w B' size A n xs :=
  ⟨h.1, fun hn => by
    obtain ⟨ad, e, hb, hc⟩ := h.2 hn
    exact ⟨ad, e, by omega, hc⟩⟩
theorem Reads.below (h : Reads w B size A n xs) (hb : Below B w w') : Reads w' B size A n xs := h.keep fun _ hp => hb.cell hp
theorem Reads.drew (h : Reads w B size A n xs) : Reads w.drew B size A n xs := h
theorem Reads.drewN (h : Reads w B size A n xs) (k : Nat) : Reads (w.drewN k) B size A n xs := h
theorem Reads.alloc (h : Reads w B size A n xs) (hB : B ≤ w.heap.size) (o : Obj) : Reads (w.alloc o) B size A n xs := h.keep fun p hp => World.cell?_alloc_lt w o p (by omega)
theorem Reads.setCell (h : Reads w B size A n xs) {p : Addr} (hB : B ≤ p.block) (u : Value) : Reads (w.setCell p u) B size A n xs :=
  h.keep fun q hq => World.cell?_setCell_other w p q u (fun e => by subst e; omega)
theorem Reads.grown (h : Reads w B size A n xs) {row : Option Nat} (hg : w.grownBy w' row) (hB : B ≤ w.heap.size) (hr : ∀ g, row = some g → B ≤ g) : Reads w' B size A n xs :=
  h.keep fun p hp => World.cell?_of_block (hg.block p.block (by omega) (fun e => by have := hr _ e.symm; omega))
theorem Reads.cut (h : Reads w B size A n xs) {k cap : Nat} (hk : k ≤ n) (hc : n ≤ cap) :
    Reads w B size (if cap = k then A else A.map (·.add (k * size))) (n - k) (xs.drop (k * size)) := by
  refine ⟨by rw [List.length_drop, h.1, Nat.sub_mul], fun hn => ?_⟩
  obtain ⟨ad, rfl, hb, hcell⟩ := h.2 (by omega)
  rw [if_neg (by omega)]
  refine ⟨ad.add (k * size), rfl, by rw [block_of_add]; exact hb, fun j u hu => ?_⟩
  rw [add_of_add]
  exact hcell _ u (by rw [← hu, List.getElem?_drop])
theorem Reads.of_own {base : Nat} {e : TypeId} {c : Nat} (h : w.ownsRow base e size (.slice A n c) n xs) : Reads w w.heap.size size A n xs := by
  refine ⟨h.1, fun hn => ?_⟩
  obtain ⟨g, cap, hv, _, hlt⟩ := h.form hn
  have hA : A = some ⟨g, 0, none⟩ := by injection hv
  subst hA
  exact ⟨_, rfl, hlt, h.cells (g := g) rfl⟩
end
def Blk (w : World) (g : Nat) (t : TypeId) (cs : Array Value) : Prop := w.heap[g]? = some (.cells cs t (0, 0))

section
variable {w w' : World} {g : Nat} {t : TypeId} {cs : Array Value}
theorem Blk.lt (h : Blk w g t cs) : g < w.heap.size := by
  rcases Nat.lt_or_ge g w.heap.size with hlt | hge
  · exact hlt
  · unfold Blk at h; rw [Array.getElem?_eq_none hge] at h; cases h
theorem Blk.cell (h : Blk w g t cs) (i : Nat) : w.cell? ⟨g, i, none⟩ = cs[i]? := cell_of_row w g i cs t (0, 0) h
theorem Blk.frozen (h : Blk w g t cs) (i : Nat) : w.frozen? ⟨g, i, none⟩ = false := by
  unfold Blk at h
  simp [World.frozen?, h]
theorem Blk.new (w : World) (t : TypeId) (cs : Array Value) : Blk (w.alloc (.cells cs t)) w.heap.size t cs := heap_alloc_new w _
theorem Blk.drew (h : Blk w g t cs) : Blk w.drew g t cs := h
theorem Blk.drewN (h : Blk w g t cs) (n : Nat) : Blk (w.drewN n) g t cs := h
theorem Blk.alloc (h : Blk w g t cs) (o : Obj) : Blk (w.alloc o) g t cs := (Below.heap_alloc w o g h.lt).trans h
theorem Blk.set_ (h : Blk w g t cs) (i : Nat) (u : Value) : Blk (w.setCell ⟨g, i, none⟩ u) g t (cs.setIfInBounds i u) := by
  unfold Blk at h ⊢
  simp [World.setCell, Array.getElem?_modify, h]
theorem Blk.far (h : Blk w g t cs) {p : Addr} (hp : g ≠ p.block) (u : Value) : Blk (w.setCell p u) g t cs := (Below.heap_setCell w p u g hp).trans h
theorem Blk.below {B : Nat} (h : Blk w g t cs) (hb : Below B w w') (hg : g < B) : Blk w' g t cs := (hb.block g hg).trans h
theorem Blk.grown {row : Option Nat} (h : Blk w g t cs) (hb : w.grownBy w' row) (hg : some g ≠ row) : Blk w' g t cs := (hb.block g h.lt hg).trans h
theorem Blk.ne_ {g' : Nat} {t' : TypeId} {cs' : Array Value} (h : Blk w g t cs) (h' : Blk w g' t' cs') (hne : t ≠ t') : g ≠ g' := by
  rintro rfl
  unfold Blk at h h'
  rw [h] at h'
  injection h' with h'
  injection h' with _ ht
  exact hne ht
theorem own_blk_ne {base : Nat} {e : TypeId} {size n : Nat} {v : Value} {xs : List Value} (h : w.ownsRow base e size v n xs) (hg : Blk w g t cs) (hne : e ≠ t) : v.ownBlock ≠ some g := by
  rcases h.2 with ⟨rfl, _⟩ | ⟨g', cap, cur, rfl, _, hh, _⟩
  · simp [Value.ownBlock]
  · intro he
    have : g' = g := by simpa [Value.ownBlock] using he
    subst this
    exact Blk.ne_ (t := e) hh hg hne rfl
end
section
variable {P : Program} (w : World)

theorem run_append_of_nil (base : Nat) (t ty e : TypeId) (i : TypeInfo) (size : Nat) (ht : P.underlying t = some (.slice e)) (hi : P.info? e = some i)
    (v : Value) (n : Nat) (xs : List Value) (hown : w.ownsRow base e size v n xs) (c : Nat) : (Builtin.append_ #[t, t] ty #[v, .slice none 0 c]).run P w = .ok v w := by
  rcases hown.2 with ⟨rfl, rfl⟩ | ⟨g, cap, cur, rfl, _, _, hnc, _⟩
  · simp [Builtin.append_, run_underlying ht, sizeOf, typeInfo, hi, Builtin.lenOf, Builtin.firstCells]
  · simp [Builtin.append_, run_underlying ht, sizeOf, typeInfo, hi, Builtin.lenOf, Builtin.firstCells, hnc, storeCells]

theorem run_append_any (base : Nat) (t ty e : TypeId) (i : TypeInfo) (z : Value) (size bytes : Nat) (ht : P.underlying t = some (.slice e)) (hi : P.info? e = some i) (hz : i.zero = some z)
    (hsize : i.size = size) (hby : i.bytes = bytes) (hzs : z.cells.size = size) (hsz : 0 < size)
    (v : Value) (n : Nat) (xs : List Value) (hown : w.ownsRow base e size v n xs)
    (B : Nat) (A : Option Addr) (m c : Nat) (news : List Value) (hr : Reads w B size A m news) (h1 : ∀ u ∈ news, u.oneCell' = true)
    (h63 : n + m ≤ maxLen) (hbytes : (n + m) * bytes ≤ 140737488355328) (hbase : base ≤ w.heap.size) :
    ∃ v' w', (Builtin.append_ #[t, t] ty #[v, .slice A m c]).run P w = .ok v' w' ∧ w'.ownsRow base e size v' (n + m) (xs ++ news) ∧ w.grownBy w' v.ownBlock ∧
      (v'.ownBlock = v.ownBlock ∨ v'.ownBlock = some w.heap.size) := by
  rcases A with _ | ad
  · have hm : m = 0 := by
      rcases Nat.eq_zero_or_pos m with h0 | h0
      · exact h0
      · obtain ⟨ad, h, _⟩ := hr.2 h0
        cases h
    subst hm
    have hn : news = [] := List.eq_nil_of_length_eq_zero (by simpa using hr.1)
    subst hn
    exact ⟨v, w, run_append_of_nil w base t ty e i size ht hi v n xs hown c, by simpa using hown, World.grownBy.refl w _, .inl rfl⟩
  · have hcells : ∀ j u, news[j]? = some u → w.cell? (ad.add j) = some u := by
      intro j u hu
      rcases Nat.eq_zero_or_pos m with h0 | h0
      · subst h0
        have hn : news = [] := List.eq_nil_of_length_eq_zero (by simpa using hr.1)
        subst hn
        simp at hu
      · obtain ⟨ad', h, _, hc⟩ := hr.2 h0
        injection h with h
        subst h
        exact hc j u hu
    obtain ⟨v', w', hrun, h2, h3, _, h5⟩ := run_append_own_at (P := P) w base t ty e i z size bytes ht hi hz hsize hby hzs hsz v n xs hown ad m c news hr.1 hcells h1 h63 hbytes hbase
    exact ⟨v', w', hrun, h2, h3, h5⟩

theorem wp_append_any {o : Oper} {a : Act} {K : Act → World → Prop} {Q : Exit → Act → World → Prop} (s x : Operand) (t : TypeId)
    (ho : o.op = .call { callee := .builtin .append, args := #[s, x], argTypes := #[t, t] })
    (base : Nat) (e : TypeId) (i : TypeInfo) (z : Value) (size bytes : Nat) (ht : P.underlying t = some (.slice e)) (hi : P.info? e = some i) (hz : i.zero = some z)
    (hsize : i.size = size) (hby : i.bytes = bytes) (hzs : z.cells.size = size) (hsz : 0 < size)
    (v : Value) (n : Nat) (xs : List Value) (hs : a.eval s = v) (hown : w.ownsRow base e size v n xs)
    (B : Nat) (A : Option Addr) (m c : Nat) (news : List Value) (hx : a.eval x = .slice A m c) (hr : Reads w B size A m news) (h1 : ∀ u ∈ news, u.oneCell' = true)
    (h63 : n + m ≤ maxLen) (hbytes : (n + m) * bytes ≤ 140737488355328) (hbase : base ≤ w.heap.size)
    (h : ∀ v' w', w'.ownsRow base e size v' (n + m) (xs ++ news) → w.grownBy w' v.ownBlock → (v'.ownBlock = v.ownBlock ∨ v'.ownBlock = some w.heap.size) → K (a.put o.dst v') w') : o.wp P a w K Q := by
  obtain ⟨v', w', hrun, h2, h3, h4⟩ := run_append_any (P := P) w base t o.type e i z size bytes ht hi hz hsize hby hzs hsz v n xs hown B A m c news hr h1 h63 hbytes hbase
  unfold Oper.wp execOp
  simp only [ho, resolve, invoke, builtin, Sem.run_bind, Sem.run_pure, Result.andThen_ok, List.map_toArray, List.map_cons, List.map_nil, hs, hx, hrun]
  exact h v' w' h2 h3 h4

theorem wpList_append_any {ops : Array Oper} {rest : List Oper} {o : Oper} {a : Act} {Q : Exit → Act → World → Prop} (hgd : o.guard = none) (s x : Operand) (t : TypeId)
    (ho : o.op = .call { callee := .builtin .append, args := #[s, x], argTypes := #[t, t] })
    (base : Nat) (e : TypeId) (i : TypeInfo) (z : Value) (size bytes : Nat) (ht : P.underlying t = some (.slice e)) (hi : P.info? e = some i) (hz : i.zero = some z)
    (hsize : i.size = size) (hby : i.bytes = bytes) (hzs : z.cells.size = size) (hsz : 0 < size)
    (v : Value) (n : Nat) (xs : List Value) (hs : a.eval s = v) (hown : w.ownsRow base e size v n xs)
    (B : Nat) (A : Option Addr) (m c : Nat) (news : List Value) (hx : a.eval x = .slice A m c) (hr : Reads w B size A m news) (h1 : ∀ u ∈ news, u.oneCell' = true)
    (h63 : n + m ≤ maxLen) (hbytes : (n + m) * bytes ≤ 140737488355328) (hbase : base ≤ w.heap.size)
    (h : ∀ v' w', w'.ownsRow base e size v' (n + m) (xs ++ news) → w.grownBy w' v.ownBlock → (v'.ownBlock = v.ownBlock ∨ v'.ownBlock = some w.heap.size) → wpList P ops Q rest (a.put o.dst v') w') : wpList P ops Q (o :: rest) a w :=
  wpList_plain hgd fun _ hK => wp_append_any w s x t ho base e i z size bytes ht hi hz hsize hby hzs hsz v n xs hs hown B A m c news hx hr h1 h63 hbytes hbase fun v' w' h2 h3 h4 => hK _ _ (h v' w' h2 h3 h4)

theorem step_append_any {ops : Array Oper} {o : Oper} {a : Act} {K : Act → World → Prop} {Q : Exit → Act → World → Prop} {E : Prop} (hgd : o.guard = none) (s x : Operand) (t : TypeId)
    (ho : o.op = .call { callee := .builtin .append, args := #[s, x], argTypes := #[t, t] })
    (base : Nat) (e : TypeId) (i : TypeInfo) (z : Value) (size bytes : Nat) (ht : P.underlying t = some (.slice e)) (hi : P.info? e = some i) (hz : i.zero = some z)
    (hsize : i.size = size) (hby : i.bytes = bytes) (hzs : z.cells.size = size) (hsz : 0 < size)
    (v : Value) (n : Nat) (xs : List Value) (hs : a.eval s = v) (hown : w.ownsRow base e size v n xs)
    (B : Nat) (A : Option Addr) (m c : Nat) (news : List Value) (hx : a.eval x = .slice A m c) (hr : Reads w B size A m news) (h1 : ∀ u ∈ news, u.oneCell' = true)
    (h63 : n + m ≤ maxLen) (hbytes : (n + m) * bytes ≤ 140737488355328) (hbase : base ≤ w.heap.size)
    (h : ∀ v' w', w'.ownsRow base e size v' (n + m) (xs ++ news) → w.grownBy w' v.ownBlock → (v'.ownBlock = v.ownBlock ∨ v'.ownBlock = some w.heap.size) → K (a.put o.dst v') w') :
    if Region.wanted o (yielded ops a.tmps) = true then Oper.wp P o a w K Q else E := by
  have hw : Region.wanted o (yielded ops a.tmps) = true := by simp [Region.wanted, hgd]
  rw [if_pos hw]
  exact wp_append_any w s x t ho base e i z size bytes ht hi hz hsize hby hzs hsz v n xs hs hown B A m c news hx hr h1 h63 hbytes hbase h
end

theorem Bytes.reads {w : World} {A : Option Addr} {n : Nat} {bs : List Nat} (h : Bytes w A n bs) : Reads w w.heap.size 1 A n (bs.map fun x => Value.int .u8 ((x : Nat) : Int)) :=
  ⟨by simp [h.1], fun hn => by
    obtain ⟨b, o, e, hb, hc⟩ := h.2.2 hn
    refine ⟨_, e, hb, fun j u hu => ?_⟩
    have hj : j < bs.length := by
      rcases Nat.lt_or_ge j bs.length with h1 | h1
      · exact h1
      · rw [List.getElem?_eq_none (by simpa using h1)] at hu; cases hu
    have e2 : (⟨b, o, none⟩ : Addr).add j = ⟨b, o + j, none⟩ := by unfold Addr.add; split <;> simp_all
    rw [e2, hc j (by rw [← h.1]; exact hj), ← hu, List.getElem?_map, List.getElem?_eq_getElem hj, List.getD_eq_getElem?_getD, List.getElem?_eq_getElem hj]
    rfl⟩
theorem bytes_one (bs : List Nat) : ∀ u ∈ bs.map (fun x => Value.int .u8 ((x : Nat) : Int)), u.oneCell' = true := fun u hu => by
  obtain ⟨x, _, rfl⟩ := List.mem_map.1 hu; rfl
theorem Bytes.of_own {w : World} {base : Nat} {e : TypeId} {v : Value} {n : Nat} {bs : List Nat} (h : w.ownsRow base e 1 v n (bs.map fun x => Value.int .u8 ((x : Nat) : Int))) (hl : ∀ x ∈ bs, x < 256) :
    ∃ A cp, v = .slice A n cp ∧ Bytes w A n bs := by
  have hn : bs.length = n := by have := h.1; simpa using this
  rcases Nat.eq_zero_or_pos n with h0 | h0
  · subst h0
    have hb : bs = [] := List.eq_nil_of_length_eq_zero hn
    subst hb
    rcases h.2 with ⟨rfl, _⟩ | ⟨g, cap, cur, rfl, _⟩
    · exact ⟨_, _, rfl, rfl, by simp, fun h => absurd h (by omega)⟩
    · exact ⟨_, _, rfl, rfl, by simp, fun h => absurd h (by omega)⟩
  · obtain ⟨g, cap, hv, _, hlt⟩ := h.form h0
    subst hv
    refine ⟨_, _, rfl, hn, hl, fun _ => ⟨g, 0, rfl, hlt, fun k hk => ?_⟩⟩
    rw [Nat.zero_add, h.cellAt k (by omega), List.getElem?_map, List.getElem?_eq_getElem (by omega), List.getD_eq_getElem?_getD, List.getElem?_eq_getElem (by omega)]
    rfl
/-- The string of these bytes. -/
def strOf (bs : List Nat) : ByteArray := ⟨(bs.map UInt8.ofNat).toArray⟩
theorem foldl_push (ns : List Int) : ∀ s : ByteArray, ns.foldl (fun r n => r.push (UInt8.ofNat n.toNat)) s = ⟨s.data ++ (ns.map fun n => UInt8.ofNat n.toNat).toArray⟩ := by
  induction ns with
  | nil => intro s; simp
  | cons n ns ih => intro s; rw [List.foldl_cons, ih]; simp [ByteArray.push]
theorem strOf_inj {a b : List Nat} (ha : ∀ x ∈ a, x < 256) (hb : ∀ x ∈ b, x < 256) (h : strOf a = strOf b) : a = b := by
  have h1 : a.map UInt8.ofNat = b.map UInt8.ofNat := by
    have h2 := congrArg (fun s : ByteArray => s.data.toList) h
    simpa [strOf] using h2
  have h3 := congrArg (List.map UInt8.toNat) h1
  simp only [List.map_map] at h3
  have e : ∀ l : List Nat, (∀ x ∈ l, x < 256) → l.map (UInt8.toNat ∘ UInt8.ofNat) = l := fun l hl => by
    conv => rhs; rw [← List.map_id l]
    exact List.map_congr_left fun x hx => by simp [Nat.mod_eq_of_lt (hl x hx)]
  rwa [e a ha, e b hb] at h3
theorem Bytes.to_string {P : Program} {w : World} {A : Option Addr} {n : Nat} {bs : List Nat} (h : Bytes w A n bs) (src dst e : TypeId) (cp : Nat)
    (hs : P.underlying src = some (.slice e)) (he : P.underlying e = some (.int .u8)) (hd : P.underlying dst = some .string) :
    (convert src dst (.slice A n cp)).run P w = .ok (.string (strOf bs)) w := by
  rw [run_convert_bytes_string w src dst e A n cp hs he hd]
  rcases A with _ | ad
  · have h0 : n = 0 := by
      rcases Nat.eq_zero_or_pos n with h0 | h0
      · exact h0
      · obtain ⟨b, o, e, _⟩ := h.2.2 h0; cases e
    subst h0
    have hb : bs = [] := List.eq_nil_of_length_eq_zero h.1
    subst hb
    rfl
  · have hc : (loadCells ad n).run P w = .ok ((bs.map fun x => ((x : Nat) : Int)).map (Value.int .u8)).toArray w := by
      have hl := run_loadCells_list (P := P) w ad ((bs.map fun x => ((x : Nat) : Int)).map (Value.int .u8)) (fun j v hv => by
        have hj : j < bs.length := by
          rcases Nat.lt_or_ge j bs.length with h1 | h1
          · exact h1
          · rw [List.getElem?_eq_none (by simpa using h1)] at hv; cases hv
        obtain ⟨b, o, e, hb, hcell⟩ := h.2.2 (by rw [← h.1]; omega)
        have e1 : ad = ⟨b, o, none⟩ := Option.some.inj e
        have e2 : (⟨b, o, none⟩ : Addr).add j = ⟨b, o + j, none⟩ := by unfold Addr.add; split <;> simp_all
        rw [e1, e2, hcell j (by rw [← h.1]; exact hj), ← hv, List.getElem?_map, List.getElem?_map, List.getElem?_eq_getElem hj, List.getD_eq_getElem?_getD, List.getElem?_eq_getElem hj]
        rfl)
      simpa [h.1] using hl
    rw [run_bytesToString w ad n cp _ hc, foldl_push]
    congr 2
    simp [strOf]
theorem own_empty (w : World) (e : TypeId) (size B : Nat) (hB : w.heap.size = B) : (w.alloc (.cells #[] e)).ownsRow B e size (.slice (some ⟨B, 0, none⟩) 0 0) 0 [] := by
  subst hB
  exact World.ownsRow_lit (e := e) (size := size) (base := w.heap.size) w #[] 0 (Nat.le_refl _) (by unfold maxLen; omega) (by simp)
end Go.Proofs.YtjkaigfpjebfbaaDoor
/- Which blocks a call may have turned; rows of sectors. -/
namespace Go.Proofs.YtjkaigfpjebfbaaDoor
open Go.RowKit

/-- Of the blocks that were there only those in T may have turned. -/
structure Upd (T : Nat → Prop) (a w : World) : Prop where
  os : w.os = a.os
  tape : w.tape = a.tape
  output : w.output = a.output
  size : a.heap.size ≤ w.heap.size
  block : ∀ k, k < a.heap.size → ¬ T k → w.heap[k]? = a.heap[k]?
namespace Upd
variable {T : Nat → Prop} {a b w w' : World}
theorem refl (T : Nat → Prop) (w : World) : Upd T w w := ⟨rfl, rfl, rfl, Nat.le_refl _, fun _ _ _ => rfl⟩
theorem trans (h : Upd T a b) (k : Upd T b w) : Upd T a w :=
  ⟨k.os.trans h.os, k.tape.trans h.tape, k.output.trans h.output, Nat.le_trans h.size k.size, fun i hi ht => (k.block i (Nat.lt_of_lt_of_le hi h.size) ht).trans (h.block i hi ht)⟩
theorem mono {T' : Nat → Prop} (h : Upd T a w) (ht : ∀ k, k < a.heap.size → T k → T' k) : Upd T' a w := ⟨h.os, h.tape, h.output, h.size, fun k hk hn => h.block k hk fun h1 => hn (ht k hk h1)⟩
theorem drew (h : Upd T a w) : Upd T a w.drew := ⟨h.os, h.tape, h.output, h.size, h.block⟩
theorem drewN (h : Upd T a w) (n : Nat) : Upd T a (w.drewN n) := ⟨h.os, h.tape, h.output, h.size, h.block⟩
theorem alloc (h : Upd T a w) (o : Obj) : Upd T a (w.alloc o) :=
  ⟨h.os, h.tape, h.output, Nat.le_trans h.size (by simp), fun k hk ht => (Below.heap_alloc w o k (Nat.lt_of_lt_of_le hk h.size)).trans (h.block k hk ht)⟩
theorem setCell (h : Upd T a w) {p : Addr} (hp : T p.block ∨ a.heap.size ≤ p.block) (u : Value) : Upd T a (w.setCell p u) :=
  ⟨h.os, h.tape, h.output, by simpa [World.setCell] using h.size, fun k hk ht => (Below.heap_setCell w p u k (by
    rintro rfl
    rcases hp with hp | hp
    · exact ht hp
    · omega)).trans (h.block k hk ht)⟩
theorem setRow (h : Upd T a w) {g : Nat} (hp : T g ∨ a.heap.size ≤ g) (cs : Array Value) : Upd T a (w.setRow g cs) :=
  ⟨h.os, h.tape, h.output, by simpa using h.size, fun k hk ht => (setRow_other w g k cs (by
    rintro rfl
    rcases hp with hp | hp
    · exact ht hp
    · omega)).trans (h.block k hk ht)⟩
theorem grown (h : Upd T a w) {row : Option Nat} (hg : w.grownBy w' row) (hr : ∀ k, row = some k → T k ∨ a.heap.size ≤ k) : Upd T a w' :=
  ⟨hg.os.trans h.os, hg.tape.trans h.tape, hg.output.trans h.output, Nat.le_trans h.size hg.size, fun k hk ht => (hg.block k (Nat.lt_of_lt_of_le hk h.size) (fun e => by
    rcases hr k e.symm with h1 | h1
    · exact ht h1
    · omega)).trans (h.block k hk ht)⟩
theorem of_below {B : Nat} (h : Below B a w) (hT : ∀ k, k < a.heap.size → B ≤ k → T k) : Upd T a w :=
  ⟨h.os, h.tape, h.output, h.size, fun k hk ht => h.block k (by
    rcases Nat.lt_or_ge k B with h1 | h1
    · exact h1
    · exact absurd (hT k hk h1) ht)⟩
theorem below {B : Nat} (h : Upd T a w) (hT : ∀ k, T k → B ≤ k) (hB : B ≤ a.heap.size) : Below B a w :=
  ⟨h.os, h.tape, h.output, h.size, fun k hk => h.block k (by omega) fun h1 => by have := hT k h1; omega⟩
theorem cell (h : Upd T a w) {p : Addr} (hp : p.block < a.heap.size) (ht : ¬ T p.block) : w.cell? p = a.cell? p := World.cell?_of_block (w := a) (h.block _ hp ht)
theorem frozen (h : Upd T a w) {p : Addr} (hp : p.block < a.heap.size) (ht : ¬ T p.block) : w.frozen? p = a.frozen? p := World.frozen?_of_block (w := a) (h.block _ hp ht)
end Upd
theorem Blk.upd {T : Nat → Prop} {a w : World} {g : Nat} {t : TypeId} {cs : Array Value} (h : Blk a g t cs) (hu : Upd T a w) (ht : ¬ T g) : Blk w g t cs := (hu.block g h.lt ht).trans h
theorem Blk.row {w : World} {g : Nat} {t : TypeId} {cs : Array Value} (h : Blk w g t cs) (cs' : Array Value) : Blk (w.setRow g cs') g t cs' := setRow_heap w g _ _ _ _ h
theorem Blk.rowFar {w : World} {g g' : Nat} {t : TypeId} {cs : Array Value} (h : Blk w g t cs) (hne : g ≠ g') (cs' : Array Value) : Blk (w.setRow g' cs') g t cs := (setRow_other w g' g cs' hne).trans h
theorem Bytes.upd {T : Nat → Prop} {a w : World} {A : Option Addr} {n : Nat} {bs : List Nat} (h : Bytes a A n bs) (hu : Upd T a w) (ht : ∀ b o, A = some ⟨b, o, none⟩ → 0 < n → ¬ T b) : Bytes w A n bs :=
  ⟨h.1, h.2.1, fun hn => by
    obtain ⟨b, o, e, hb, hc⟩ := h.2.2 hn
    exact ⟨b, o, e, Nat.lt_of_lt_of_le hb hu.size, fun k hk => (hu.cell (p := ⟨b, o + k, none⟩) hb (ht b o e hn)).trans (hc k hk)⟩⟩

/-- Block g: n sectors with the bytes f (and maybe spare cells behind). -/
def Sect (w : World) (g t n : Nat) (f : Nat → Nat) : Prop := ∃ C : Array Value, Blk w g t C ∧ 64 * n ≤ C.size ∧ ∀ i, i < 64 * n → C[i]? = some (.int .u8 ((f i : Nat) : Int))
namespace Sect
variable {w w' : World} {g t n : Nat} {f f' : Nat → Nat}
theorem lt (h : Sect w g t n f) : g < w.heap.size := by obtain ⟨C, hb, _⟩ := h; exact hb.lt
theorem cell (h : Sect w g t n f) {i : Nat} (hi : i < 64 * n) : w.cell? ⟨g, i, none⟩ = some (.int .u8 ((f i : Nat) : Int)) := by
  obtain ⟨C, hb, _, hc⟩ := h
  rw [hb.cell, hc i hi]
theorem frozen (h : Sect w g t n f) (i : Nat) : w.frozen? ⟨g, i, none⟩ = false := by obtain ⟨C, hb, _⟩ := h; exact hb.frozen i
theorem of_block (h : Sect w g t n f) (e : w'.heap[g]? = w.heap[g]?) : Sect w' g t n f := by
  obtain ⟨C, hb, hs, hc⟩ := h
  exact ⟨C, e.trans hb, hs, hc⟩
theorem upd {T : Nat → Prop} (h : Sect w g t n f) (hu : Upd T w w') (ht : ¬ T g) : Sect w' g t n f := h.of_block (hu.block g h.lt ht)
theorem drew (h : Sect w g t n f) : Sect w.drew g t n f := h
theorem drewN (h : Sect w g t n f) (k : Nat) : Sect (w.drewN k) g t n f := h
theorem alloc (h : Sect w g t n f) (o : Obj) : Sect (w.alloc o) g t n f := h.of_block (Below.heap_alloc w o g h.lt)
theorem far (h : Sect w g t n f) {p : Addr} (hp : g ≠ p.block) (u : Value) : Sect (w.setCell p u) g t n f := h.of_block (Below.heap_setCell w p u g hp)
theorem rowFar (h : Sect w g t n f) {g' : Nat} (hp : g ≠ g') (cs : Array Value) : Sect (w.setRow g' cs) g t n f := h.of_block (setRow_other w g' g cs hp)
theorem congr (h : Sect w g t n f) (e : ∀ i, i < 64 * n → f i = f' i) : Sect w g t n f' := by
  obtain ⟨C, hb, hs, hc⟩ := h
  exact ⟨C, hb, hs, fun i hi => by rw [hc i hi, e i hi]⟩
theorem set (h : Sect w g t n f) (i x : Nat) : Sect (w.setCell ⟨g, i, none⟩ (.int .u8 ((x : Nat) : Int))) g t n (fun j => if j = i then x else f j) := by
  obtain ⟨C, hb, hs, hc⟩ := h
  refine ⟨_, hb.set_ i _, by simpa using hs, fun j hj => ?_⟩
  rw [Array.getElem?_setIfInBounds]
  by_cases e : i = j
  · subst e
    rw [if_pos rfl, if_pos (by omega)]
    simp only [if_true]
  · have e2 : ¬ j = i := fun h => e h.symm
    rw [if_neg e, hc j hj]
    simp only [e2, if_false]
/-- A stretch of bytes laid over: what 'copy' leaves. -/
theorem splice_ {o : Nat} {bs : List Nat} (hb : ∃ C : Array Value, Blk w g t C ∧ 64 * n ≤ C.size ∧ (∀ i, i < 64 * n → C[i]? = some (.int .u8 ((f i : Nat) : Int))) ∧ Blk w' g t (splice C.toList o (bs.map fun x => Value.int .u8 ((x : Nat) : Int))).toArray) (hl : o + bs.length ≤ 64 * n) :
    Sect w' g t n (fun j => if o ≤ j ∧ j < o + bs.length then bs.getD (j - o) 0 else f j) := by
  obtain ⟨C, _, hs, hc, hb'⟩ := hb
  refine ⟨_, hb', ?_, fun j hj => ?_⟩
  · have := length_splice C.toList o (bs.map fun x => Value.int .u8 ((x : Nat) : Int)) (by simp; omega)
    simp only [List.size_toArray, this, Array.length_toList]; exact hs
  · rw [List.getElem?_toArray]
    unfold splice
    rw [List.getElem?_append, List.length_take, Array.length_toList]
    by_cases h1 : j < o
    · have h3 : ¬ (o ≤ j ∧ j < o + bs.length) := by omega
      rw [if_pos (by omega), List.getElem?_take, if_pos h1, Array.getElem?_toList, hc j hj]
      simp only [h3, if_false]
    · rw [if_neg (by omega), List.getElem?_append, List.length_map]
      by_cases h2 : j < o + bs.length
      · have h3 : o ≤ j ∧ j < o + bs.length := ⟨by omega, h2⟩
        simp only [h3, and_self, if_true]
        rw [if_pos (by omega), List.getElem?_map, show j - min o C.size = j - o by omega, List.getElem?_eq_getElem (by omega), List.getD_eq_getElem?_getD, List.getElem?_eq_getElem (by omega)]
        rfl
      · have h3 : ¬ (o ≤ j ∧ j < o + bs.length) := by omega
        simp only [h3, if_false]
        rw [if_neg (by omega), List.getElem?_drop, Array.getElem?_toList, show o + bs.length + (j - min o C.size - bs.length) = j by omega, hc j hj]
end Sect
end Go.Proofs.YtjkaigfpjebfbaaDoor
/- A struct that is a result. -/
namespace Go.Proofs.YtjkaigfpjebfbaaDoor
open Go.RowKit
set_option linter.unusedVariables false

theorem at_size : (Tryd.prog.info? 26).map (·.size) = some 2 := by kernel_rfl
/-- A text, a row .. and an error with its line as results. -/
theorem results_at {fn : Func} {t p : Tmp} (h : fn.results = #[.tmp t, .cell p 26]) (tmps : Array Value) (w : World) (g : Nat) (cs : Array Value) (hp : tmps.getD p undef = .pointer (some ⟨g, 0, none⟩)) (hg : Blk w g 26 cs) (hs : cs.size = 2) :
    (results fn tmps).run Tryd.prog w = .ok (.tuple #[tmps.getD t undef, .agg cs]) w := by
  have hp' : tmps[p]?.getD undef = .pointer (some ⟨g, 0, none⟩) := by simpa using hp
  have hl := run_loadVar_row (P := Tryd.prog) w g 26 26 cs (0, 0) _ hg Tryd.underlying26 rfl (by rw [at_size, hs])
  simp [results, h, hp', asAddr, hl]
theorem ret_at {fn : Func} {t p : Tmp} {R : Ending → World → Prop} {a : Act} {w : World} (h : fn.results = #[.tmp t, .cell p 26]) (g : Nat) (cs : Array Value) (hg : Blk w g 26 cs) (hs : cs.size = 2)
    (hp : a.tmps.getD p undef = .pointer (some ⟨g, 0, none⟩)) (hd : a.defers = []) (hR : R (.returned (.tuple #[a.tmps.getD t undef, .agg cs])) w) : bodyPost Tryd.prog fn R .ret a w :=
  bodyPost_ret (results_at h _ w g cs hp hg hs) hd hR
end Go.Proofs.YtjkaigfpjebfbaaDoor
/- Stanzas on the heap: as they are read, and as they are built. -/
namespace Go.Proofs.YtjkaigfpjebfbaaDoor
open Go.RowKit
set_option linter.unusedVariables false

theorem own_upd {T : Nat → Prop} {w w' : World} {base : Nat} {e : TypeId} {size n : Nat} {v : Value} {xs : List Value} (h : w.ownsRow base e size v n xs) (hu : Upd T w w') (hT : ∀ k, v.ownBlock = some k → ¬ T k) : w'.ownsRow base e size v n xs := by
  refine ⟨h.1, ?_⟩
  rcases h.2 with h2 | ⟨g, cap, cur, rfl, hg, hh, h3⟩
  · exact .inl h2
  · exact .inr ⟨g, cap, cur, rfl, hg, (hu.block g (Blk.lt hh) (hT g rfl)).trans hh, h3⟩
theorem own_is {w : World} {base : Nat} {e : TypeId} {size n : Nat} {v : Value} {xs : List Value} (h : w.ownsRow base e size v n xs) {k : Nat} (hk : v.ownBlock = some k) : base ≤ k ∧ ∃ cur, w.heap[k]? = some (.cells cur e (0, 0)) := by
  rcases h.2 with ⟨rfl, _⟩ | ⟨g, cap, cur, rfl, hg, hh, _⟩
  · cases hk
  · have : g = k := by simpa [Value.ownBlock] using hk
    subst this
    exact ⟨hg, cur, hh⟩
theorem own_shape {w : World} {base : Nat} {e : TypeId} {size n : Nat} {v : Value} {xs : List Value} (h : w.ownsRow base e size v n xs) : ∃ A c, v = .slice A n c := by
  rcases h.2 with ⟨rfl, hn⟩ | ⟨g, cap, cur, rfl, _⟩
  · exact ⟨none, 0, by rw [hn]⟩
  · exact ⟨_, _, rfl⟩
theorem own_ne {w : World} {base base' : Nat} {e e' : TypeId} {size size' n n' g g' c c' : Nat} {xs xs' : List Value} (h : w.ownsRow base e size (.slice (some ⟨g, 0, none⟩) n c) n xs) (h' : w.ownsRow base' e' size' (.slice (some ⟨g', 0, none⟩) n' c') n' xs') (hne : e ≠ e') : g ≠ g' := by
  rintro rfl
  obtain ⟨_, c1, k1⟩ := own_is h (k := g) rfl
  obtain ⟨_, c2, k2⟩ := own_is h' (k := g) rfl
  rw [k1] at k2
  injection k2 with k2
  injection k2 with _ k2
  exact hne k2
theorem own_ne_blk {w : World} {base : Nat} {e t : TypeId} {size n g q c : Nat} {xs : List Value} {C : Array Value} (h : w.ownsRow base e size (.slice (some ⟨g, 0, none⟩) n c) n xs) (hb : Blk w q t C) (hne : e ≠ t) : g ≠ q := by
  rintro rfl
  obtain ⟨_, c1, k1⟩ := own_is h (k := g) rfl
  unfold Blk at hb
  rw [k1] at hb
  injection hb with k2
  injection k2 with _ k2
  exact hne k2
/-- The first n * size cells at A are xs, all of them in a block of G. -/
def RowG (w : World) (G : Nat → Prop) (size : Nat) (A : Option Addr) (n : Nat) (xs : List Value) : Prop :=
  xs.length = n * size ∧ (0 < n → ∃ g o, A = some ⟨g, o, none⟩ ∧ g < w.heap.size ∧ G g ∧ ∀ j u, xs[j]? = some u → w.cell? ⟨g, o + j, none⟩ = some u)
section
variable {w w' : World} {G G' : Nat → Prop} {T : Nat → Prop}
theorem RowG.upd {size n : Nat} {A : Option Addr} {xs : List Value} (h : RowG w G size A n xs) (hu : Upd T w w') (hT : ∀ k, G k → ¬ T k) : RowG w' G size A n xs :=
  ⟨h.1, fun hn => by
    obtain ⟨g, o, e, h1, h2, h3⟩ := h.2 hn
    exact ⟨g, o, e, Nat.lt_of_lt_of_le h1 hu.size, h2, fun j u hj => (hu.cell (p := ⟨g, o + j, none⟩) h1 (hT g h2)).trans (h3 j u hj)⟩⟩
theorem RowG.mono {size n : Nat} {A : Option Addr} {xs : List Value} (h : RowG w G size A n xs) (hG : ∀ k, G k → G' k) : RowG w G' size A n xs :=
  ⟨h.1, fun hn => by
    obtain ⟨g, o, e, h1, h2, h3⟩ := h.2 hn
    exact ⟨g, o, e, h1, hG g h2, h3⟩⟩
theorem RowG.of_own {base : Nat} {e : TypeId} {size n c : Nat} {A : Option Addr} {xs : List Value} (h : w.ownsRow base e size (.slice A n c) n xs) (hG : ∀ k, A = some ⟨k, 0, none⟩ → G k) : RowG w G size A n xs :=
  ⟨h.1, fun hn => by
    obtain ⟨g, cap, hv, _, hlt⟩ := h.form hn
    injection hv with hv _ _
    subst hv
    refine ⟨g, 0, rfl, hlt, hG g rfl, fun j u hj => ?_⟩
    have := h.cells (g := g) rfl j u hj
    have e : (⟨g, 0, none⟩ : Addr).add j = ⟨g, 0 + j, none⟩ := by unfold Addr.add; split <;> simp_all
    rw [← e]
    exact this⟩
theorem own_cap {base : Nat} {e : TypeId} {size n c : Nat} {A : Option Addr} {xs : List Value} (h : w.ownsRow base e size (.slice A n c) n xs) : n ≤ c := by
  rcases h.2 with ⟨h1, h2⟩ | ⟨g, cap, cur, h1, _, _, h2, _⟩
  · injection h1 with _ h3 h4; omega
  · injection h1 with _ _ h4; omega
/-- A field's lines. -/
def LV (w : World) (G : Nat → Prop) (v : Value) (ls : List ByteArray) : Prop := ∃ A c, v = .slice A ls.length c ∧ ls.length ≤ c ∧ RowG w G 1 A ls.length (ls.map Value.string)
theorem LV.upd {v : Value} {ls : List ByteArray} (h : LV w G v ls) (hu : Upd T w w') (hT : ∀ k, G k → ¬ T k) : LV w' G v ls := by
  obtain ⟨A, c, rfl, hc, hr⟩ := h
  exact ⟨A, c, rfl, hc, hr.upd hu hT⟩
theorem LV.mono {v : Value} {ls : List ByteArray} (h : LV w G v ls) (hG : ∀ k, G k → G' k) : LV w G' v ls := by
  obtain ⟨A, c, rfl, hc, hr⟩ := h
  exact ⟨A, c, rfl, hc, hr.mono hG⟩
/-- Fields, by their cells. -/
def FV (w : World) (G : Nat → Prop) : List Value → List Fd → Prop
  | xs, [] => xs = []
  | xs, f :: r => ∃ v ys, xs = .string f.n :: v :: ys ∧ LV w G v f.ls ∧ FV w G ys r
theorem FV.upd (hu : Upd T w w') (hT : ∀ k, G k → ¬ T k) : ∀ {xs : List Value} {l : List Fd}, FV w G xs l → FV w' G xs l
  | xs, [], h => h
  | xs, f :: r, h => by
    obtain ⟨v, ys, e, h1, h2⟩ := h
    exact ⟨v, ys, e, h1.upd hu hT, FV.upd hu hT h2⟩
theorem FV.mono (hG : ∀ k, G k → G' k) : ∀ {xs : List Value} {l : List Fd}, FV w G xs l → FV w G' xs l
  | xs, [], h => h
  | xs, f :: r, h => by
    obtain ⟨v, ys, e, h1, h2⟩ := h
    exact ⟨v, ys, e, h1.mono hG, FV.mono hG h2⟩
theorem FV.snoc {v : Value} {f : Fd} (hv : LV w G v f.ls) : ∀ {xs : List Value} {l : List Fd}, FV w G xs l → FV w G (xs ++ [.string f.n, v]) (l ++ [f])
  | xs, [], h => by
    have h : xs = [] := h
    subst h
    exact ⟨v, [], rfl, hv, rfl⟩
  | xs, g :: r, h => by
    obtain ⟨u, ys, rfl, h1, h2⟩ := h
    exact ⟨u, ys ++ [.string f.n, v], rfl, h1, FV.snoc hv h2⟩
theorem FV.len : ∀ {xs : List Value} {l : List Fd}, FV w G xs l → xs.length = l.length * 2
  | xs, [], h => by have h : xs = [] := h; subst h; rfl
  | xs, g :: r, h => by
    obtain ⟨u, ys, rfl, h1, h2⟩ := h
    have := FV.len h2
    simp only [List.length_cons, this]
    omega
theorem FV.at_ : ∀ {xs : List Value} {l : List Fd}, FV w G xs l → ∀ j (h : j < l.length), xs[j * 2]? = some (.string l[j].n) ∧ ∃ v, xs[j * 2 + 1]? = some v ∧ LV w G v l[j].ls
  | xs, g :: r, h, 0, _ => by
    obtain ⟨u, ys, rfl, h1, h2⟩ := h
    exact ⟨rfl, u, rfl, h1⟩
  | xs, g :: r, h, j + 1, hj => by
    obtain ⟨u, ys, rfl, h1, h2⟩ := h
    have := FV.at_ h2 j (by simpa using hj)
    have e1 : (j + 1) * 2 = j * 2 + 1 + 1 := by omega
    rw [e1]
    exact this
/-- Stanzas, by their cells. -/
def SV (w : World) (G : Nat → Prop) : List Value → List St → Prop
  | xs, [] => xs = []
  | xs, s :: r => ∃ A c fx ys, xs = .int .i64 s.line :: .slice A s.fs.length c :: ys ∧ s.fs.length ≤ c ∧ RowG w G 2 A s.fs.length fx ∧ FV w G fx s.fs ∧ SV w G ys r
theorem SV.upd (hu : Upd T w w') (hT : ∀ k, G k → ¬ T k) : ∀ {xs : List Value} {l : List St}, SV w G xs l → SV w' G xs l
  | xs, [], h => h
  | xs, f :: r, h => by
    obtain ⟨A, c, fx, ys, e, h0, h1, h2, h3⟩ := h
    exact ⟨A, c, fx, ys, e, h0, h1.upd hu hT, h2.upd hu hT, SV.upd hu hT h3⟩
theorem SV.mono (hG : ∀ k, G k → G' k) : ∀ {xs : List Value} {l : List St}, SV w G xs l → SV w G' xs l
  | xs, [], h => h
  | xs, f :: r, h => by
    obtain ⟨A, c, fx, ys, e, h0, h1, h2, h3⟩ := h
    exact ⟨A, c, fx, ys, e, h0, h1.mono hG, h2.mono hG, SV.mono hG h3⟩
theorem SV.snoc {A : Option Addr} {c : Nat} {fx : List Value} {s : St} (h0 : s.fs.length ≤ c) (h1 : RowG w G 2 A s.fs.length fx) (h2 : FV w G fx s.fs) : ∀ {xs : List Value} {l : List St}, SV w G xs l → SV w G (xs ++ [.int .i64 s.line, .slice A s.fs.length c]) (l ++ [s])
  | xs, [], h => by
    have h : xs = [] := h
    subst h
    exact ⟨A, c, fx, [], rfl, h0, h1, h2, rfl⟩
  | xs, g :: r, h => by
    obtain ⟨B, d, fy, ys, rfl, k0, k1, k2, k3⟩ := h
    exact ⟨B, d, fy, _, rfl, k0, k1, k2, SV.snoc h0 h1 h2 k3⟩
theorem SV.len : ∀ {xs : List Value} {l : List St}, SV w G xs l → xs.length = l.length * 2
  | xs, [], h => by have h : xs = [] := h; subst h; rfl
  | xs, g :: r, h => by
    obtain ⟨A, c, fx, ys, rfl, _, _, _, h2⟩ := h
    have := SV.len h2
    simp only [List.length_cons, this]
    omega
theorem SV.at_ : ∀ {xs : List Value} {l : List St}, SV w G xs l → ∀ j (h : j < l.length), xs[j * 2]? = some (.int .i64 l[j].line) ∧ ∃ A c fx, xs[j * 2 + 1]? = some (.slice A l[j].fs.length c) ∧ l[j].fs.length ≤ c ∧ RowG w G 2 A l[j].fs.length fx ∧ FV w G fx l[j].fs
  | xs, g :: r, h, 0, _ => by
    obtain ⟨A, c, fx, ys, rfl, h0, h1, h2, h3⟩ := h
    exact ⟨rfl, A, c, fx, rfl, h0, h1, h2⟩
  | xs, g :: r, h, j + 1, hj => by
    obtain ⟨A, c, fx, ys, rfl, h0, h1, h2, h3⟩ := h
    have := SV.at_ h3 j (by simpa using hj)
    have e1 : (j + 1) * 2 = j * 2 + 1 + 1 := by omega
    rw [e1]
    exact this
/-- Stanzas as a value. -/
def StzG (w : World) (G : Nat → Prop) (v : Value) (L : List St) : Prop := ∃ A c xs, v = .slice A L.length c ∧ L.length ≤ c ∧ RowG w G 2 A L.length xs ∧ SV w G xs L
def StzAt (w : World) (v : Value) (L : List St) : Prop := ∃ G, StzG w G v L
theorem StzG.upd {v : Value} {L : List St} (h : StzG w G v L) (hu : Upd T w w') (hT : ∀ k, G k → ¬ T k) : StzG w' G v L := by
  obtain ⟨A, c, xs, rfl, hc, hr, hs⟩ := h
  exact ⟨A, c, xs, rfl, hc, hr.upd hu hT, hs.upd hu hT⟩
theorem StzAt.below {v : Value} {L : List St} (h : StzAt w v L) (hb : Below w.heap.size w w') : StzAt w' v L := by
  obtain ⟨G, h⟩ := h
  exact ⟨G, h.upd (Upd.of_below hb (T := fun _ => False) (fun k h1 h2 => by omega)) (fun _ _ h => h)⟩
theorem StzAt.nil (w : World) : StzAt w (.slice none 0 0) [] := ⟨fun _ => False, none, 0, [], rfl, Nat.le_refl _, ⟨rfl, fun h => absurd h (by simp)⟩, rfl⟩
end
/-- What is built: the stanza that is open lies at ko, its fields at kf, the lines of its last at kl; all else in blocks of G. -/
structure Opn (w : World) (base : Nat) (G : Nat → Prop) (ko co kf cf kl cl : Nat) (xs fx : List Value) (Lp : List St) (ln : Int) (Fp : List Fd) (nm : ByteArray) (ls : List ByteArray) : Prop where
  o : w.ownsRow base 34 2 (.slice (some ⟨ko, 0, none⟩) (Lp.length + 1) co) (Lp.length + 1) (xs ++ [.int .i64 ln, .slice (some ⟨kf, 0, none⟩) (Fp.length + 1) cf])
  sv : SV w G xs Lp
  f : w.ownsRow base 40 2 (.slice (some ⟨kf, 0, none⟩) (Fp.length + 1) cf) (Fp.length + 1) (fx ++ [.string nm, .slice (some ⟨kl, 0, none⟩) ls.length cl])
  fv : FV w G fx Fp
  l : w.ownsRow base 9 1 (.slice (some ⟨kl, 0, none⟩) ls.length cl) ls.length (ls.map Value.string)
  g : ∀ k, G k → k < w.heap.size ∧ k ≠ ko ∧ k ≠ kf ∧ k ≠ kl
/-- Nothing is open. -/
structure Shu (w : World) (base : Nat) (G : Nat → Prop) (A : Option Addr) (c : Nat) (xs : List Value) (L : List St) : Prop where
  o : w.ownsRow base 34 2 (.slice A L.length c) L.length xs
  sv : SV w G xs L
  g : ∀ k, G k → k < w.heap.size ∧ A ≠ some ⟨k, 0, none⟩
theorem Shu.nil (w : World) (base : Nat) : Shu w base (fun _ => False) none 0 [] [] := ⟨World.ownsRow_nil _ _ _ _, rfl, fun _ h => h.elim⟩
section
variable {w w' : World} {base : Nat} {G : Nat → Prop} {ko co kf cf kl cl : Nat} {xs fx : List Value} {Lp : List St} {ln : Int} {Fp : List Fd} {nm : ByteArray} {ls : List ByteArray}
theorem Opn.ne (h : Opn w base G ko co kf cf kl cl xs fx Lp ln Fp nm ls) : ko ≠ kf ∧ ko ≠ kl ∧ kf ≠ kl := ⟨own_ne h.o h.f (by decide), own_ne h.o h.l (by decide), own_ne h.f h.l (by decide)⟩
theorem Opn.upd {T : Nat → Prop} (h : Opn w base G ko co kf cf kl cl xs fx Lp ln Fp nm ls) (hu : Upd T w w') (h1 : ¬ T ko) (h2 : ¬ T kf) (h3 : ¬ T kl) (h4 : ∀ k, G k → ¬ T k) : Opn w' base G ko co kf cf kl cl xs fx Lp ln Fp nm ls where
  o := own_upd h.o hu (fun k e => by injection e with e; subst e; exact h1)
  sv := h.sv.upd hu h4
  f := own_upd h.f hu (fun k e => by injection e with e; subst e; exact h2)
  fv := h.fv.upd hu h4
  l := own_upd h.l hu (fun k e => by injection e with e; subst e; exact h3)
  g := fun k hk => ⟨Nat.lt_of_lt_of_le (h.g k hk).1 hu.size, (h.g k hk).2⟩
theorem Shu.upd {T : Nat → Prop} {A : Option Addr} {c : Nat} {L : List St} (h : Shu w base G A c xs L) (hu : Upd T w w') (h1 : ∀ k, A = some ⟨k, 0, none⟩ → ¬ T k) (h4 : ∀ k, G k → ¬ T k) : Shu w' base G A c xs L where
  o := own_upd h.o hu (fun k e => h1 k (by
    cases A with
    | none => cases e
    | some a =>
      rcases h.o.2 with ⟨e2, _⟩ | ⟨g, cap, cur, e2, _⟩
      · cases e2
      · injection e2 with e2 _ _
        injection e2 with e2
        subst e2
        injection e with e
        have e : g = k := e
        rw [e]))
  sv := h.sv.upd hu h4
  g := fun k hk => ⟨Nat.lt_of_lt_of_le (h.g k hk).1 hu.size, (h.g k hk).2⟩
/-- A blank line closes what is open. -/
theorem Opn.close (h : Opn w base G ko co kf cf kl cl xs fx Lp ln Fp nm ls) : Shu w base (fun k => G k ∨ k = kf ∨ k = kl) (some ⟨ko, 0, none⟩) co (xs ++ [.int .i64 ln, .slice (some ⟨kf, 0, none⟩) (Fp.length + 1) cf]) (Lp ++ [⟨ln, Fp ++ [⟨nm, ls⟩]⟩]) := by
  have hn := h.ne
  have e1 : (Lp ++ [(⟨ln, Fp ++ [⟨nm, ls⟩]⟩ : St)]).length = Lp.length + 1 := by simp
  have e2 : (Fp ++ [(⟨nm, ls⟩ : Fd)]).length = Fp.length + 1 := by simp
  have hlv : LV w (fun k => G k ∨ k = kf ∨ k = kl) (.slice (some ⟨kl, 0, none⟩) ls.length cl) ls := ⟨_, _, rfl, own_cap h.l, RowG.of_own h.l (fun k e => by injection e with e; injection e with e; exact .inr (.inr e.symm))⟩
  refine ⟨by rw [e1]; exact h.o, ?_, fun k hk => ?_⟩
  · have := SV.snoc (s := ⟨ln, Fp ++ [⟨nm, ls⟩]⟩) (A := some ⟨kf, 0, none⟩) (c := cf) (by rw [e2]; exact own_cap h.f) (by rw [e2]; exact RowG.of_own (G := fun k => G k ∨ k = kf ∨ k = kl) h.f (fun k e => by injection e with e; injection e with e; exact .inr (.inl e.symm))) (FV.snoc (f := ⟨nm, ls⟩) hlv (h.fv.mono (fun k hk => .inl hk))) (h.sv.mono (fun k hk => Or.inl hk))
    rw [e2] at this
    exact this
  · have hlt : ∀ g, (∃ c, w.heap[g]? = some c) → g < w.heap.size := fun g ⟨c, hc⟩ => by
      rcases Nat.lt_or_ge g w.heap.size with h9 | h9
      · exact h9
      · rw [Array.getElem?_eq_none h9] at hc; cases hc
    have ne_some : ∀ g, g ≠ ko → (some ⟨ko, 0, none⟩ : Option Addr) ≠ some ⟨g, 0, none⟩ := fun g hg e => by injection e with e; injection e with e; exact hg e.symm
    rcases hk with hk | rfl | rfl
    · exact ⟨(h.g k hk).1, ne_some k (h.g k hk).2.1⟩
    · obtain ⟨_, cur, hc⟩ := own_is h.f (k := k) rfl
      exact ⟨hlt k ⟨_, hc⟩, ne_some k (Ne.symm hn.1)⟩
    · obtain ⟨_, cur, hc⟩ := own_is h.l (k := k) rfl
      exact ⟨hlt k ⟨_, hc⟩, ne_some k (Ne.symm hn.2.1)⟩
theorem set_last2 (xs : List Value) (a b c : Value) (n : Nat) (h : xs.length = n * 2) : (xs ++ [a, b]).set (n * 2 + 1) c = xs ++ [a, c] := by
  rw [← h, List.set_append_right _ _ (by omega)]
  have : xs.length + 1 - xs.length = 1 := by omega
  rw [this]
  rfl
theorem Opn.xlen (h : Opn w base G ko co kf cf kl cl xs fx Lp ln Fp nm ls) : xs.length = Lp.length * 2 ∧ fx.length = Fp.length * 2 := ⟨h.sv.len, h.fv.len⟩
/-- A further line. -/
theorem Opn.line (h : Opn w base G ko co kf cf kl cl xs fx Lp ln Fp nm ls) {w5 : World} {kl' c5 : Nat} {x : ByteArray} (hu : Upd (fun k => k = kl) w w5) (hk : kl' = kl ∨ w.heap.size ≤ kl')
    (ho : w5.ownsRow base 9 1 (.slice (some ⟨kl', 0, none⟩) (ls.length + 1) c5) (ls.length + 1) (ls.map Value.string ++ [.string x])) :
    Opn (w5.setCell ⟨kf, Fp.length * 2 + 1, none⟩ (.slice (some ⟨kl', 0, none⟩) (ls.length + 1) c5)) base G ko co kf cf kl' c5 xs fx Lp ln Fp nm (ls ++ [x]) ∧ Upd (fun k => k = kl ∨ k = kf) w (w5.setCell ⟨kf, Fp.length * 2 + 1, none⟩ (.slice (some ⟨kl', 0, none⟩) (ls.length + 1) c5)) := by
  have hn := h.ne
  have hx := h.xlen
  have hel : (ls ++ [x]).length = ls.length + 1 := by simp
  have hem : (ls ++ [x]).map Value.string = ls.map Value.string ++ [.string x] := by simp
  have h5o := own_upd h.o hu (fun k e => by injection e with e; subst e; exact hn.2.1)
  have h5f := own_upd h.f hu (fun k e => by injection e with e; subst e; exact hn.2.2)
  have hne5 : kf ≠ kl' := own_ne h5f ho (by decide)
  have hneo : ko ≠ kl' := own_ne h5o ho (by decide)
  have hs := (h5f.stored (Fp.length * 2 + 1) (.slice (some ⟨kl', 0, none⟩) (ls.length + 1) c5))
  have hu2 : Upd (fun k => k = kf) w5 (w5.setCell ⟨kf, Fp.length * 2 + 1, none⟩ (.slice (some ⟨kl', 0, none⟩) (ls.length + 1) c5)) := (Upd.refl (fun k => k = kf) _).setCell (p := ⟨kf, Fp.length * 2 + 1, none⟩) (.inl rfl) _
  refine ⟨⟨own_upd h5o hu2 (fun k e => by injection e with e; subst e; exact hn.1), (h.sv.upd hu (fun k hk e => (h.g k hk).2.2.2 e)).upd hu2 (fun k hk e => (h.g k hk).2.2.1 e), ?_, (h.fv.upd hu (fun k hk e => (h.g k hk).2.2.2 e)).upd hu2 (fun k hk e => (h.g k hk).2.2.1 e), ?_, fun k hk' => ?_⟩, ?_⟩
  · rw [hel]
    have := hs.1
    rw [set_last2 _ _ _ _ _ hx.2] at this
    exact this
  · rw [hel, hem]
    exact own_upd ho hu2 (fun k e => by injection e with e; subst e; exact Ne.symm hne5)
  · have h9 := h.g k hk'
    refine ⟨Nat.lt_of_lt_of_le (Nat.lt_of_lt_of_le h9.1 hu.size) hu2.size, h9.2.1, h9.2.2.1, ?_⟩
    rcases hk with e | e
    · rw [e]; exact h9.2.2.2
    · omega
  · exact (hu.mono (fun k _ hk => Or.inl hk)).trans (hu2.mono (fun k _ hk => Or.inr hk))
/-- A further field: its lines lie at kl' already. -/
theorem Opn.field (h : Opn w base G ko co kf cf kl cl xs fx Lp ln Fp nm ls) {w5 : World} {kf' c5 kl' cl' : Nat} {nm' x : ByteArray} (hu : Upd (fun k => k = kf) w w5) (hk : kf' = kf ∨ w.heap.size ≤ kf') (hkl : ∀ k, (G k ∨ k = kl) → k ≠ kl')
    (ho : w5.ownsRow base 40 2 (.slice (some ⟨kf', 0, none⟩) (Fp.length + 1 + 1) c5) (Fp.length + 1 + 1) (fx ++ [.string nm, .slice (some ⟨kl, 0, none⟩) ls.length cl] ++ [.string nm', .slice (some ⟨kl', 0, none⟩) 1 cl']))
    (hl : w5.ownsRow base 9 1 (.slice (some ⟨kl', 0, none⟩) 1 cl') 1 [.string x]) :
    Opn (w5.setCell ⟨ko, Lp.length * 2 + 1, none⟩ (.slice (some ⟨kf', 0, none⟩) (Fp.length + 1 + 1) c5)) base (fun k => G k ∨ k = kl) ko co kf' c5 kl' cl' xs (fx ++ [.string nm, .slice (some ⟨kl, 0, none⟩) ls.length cl]) Lp ln (Fp ++ [⟨nm, ls⟩]) nm' [x] ∧ Upd (fun k => k = kf ∨ k = ko) w (w5.setCell ⟨ko, Lp.length * 2 + 1, none⟩ (.slice (some ⟨kf', 0, none⟩) (Fp.length + 1 + 1) c5)) := by
  have hn := h.ne
  have hx := h.xlen
  have hel : (Fp ++ [(⟨nm, ls⟩ : Fd)]).length = Fp.length + 1 := by simp
  have h5o := own_upd h.o hu (fun k e => by injection e with e; subst e; exact hn.1)
  have h5l := own_upd h.l hu (fun k e => by injection e with e; subst e; exact Ne.symm hn.2.2)
  have hneo : ko ≠ kf' := own_ne h5o ho (by decide)
  have hnel : ko ≠ kl' := own_ne h5o hl (by decide)
  have hnfl : kf' ≠ kl := own_ne ho h5l (by decide)
  have hu2 : Upd (fun k => k = ko) w5 (w5.setCell ⟨ko, Lp.length * 2 + 1, none⟩ (.slice (some ⟨kf', 0, none⟩) (Fp.length + 1 + 1) c5)) := (Upd.refl (fun k => k = ko) _).setCell (p := ⟨ko, Lp.length * 2 + 1, none⟩) (.inl rfl) _
  have hs := (h5o.stored (Lp.length * 2 + 1) (.slice (some ⟨kf', 0, none⟩) (Fp.length + 1 + 1) c5))
  have hlv : LV w5 (fun k => G k ∨ k = kl) (.slice (some ⟨kl, 0, none⟩) ls.length cl) ls := ⟨_, _, rfl, own_cap h5l, RowG.of_own h5l (fun k e => by injection e with e; injection e with e; exact .inr e.symm)⟩
  have hfv : FV w5 (fun k => G k ∨ k = kl) (fx ++ [.string nm, .slice (some ⟨kl, 0, none⟩) ls.length cl]) (Fp ++ [⟨nm, ls⟩]) := FV.snoc (f := ⟨nm, ls⟩) hlv ((h.fv.upd hu (fun k hk e => (h.g k hk).2.2.1 e)).mono (fun k hk => .inl hk))
  have hko : ∀ k, (G k ∨ k = kl) → ¬ (k = ko) := fun k hk e => by
    rcases hk with hk | hk
    · exact (h.g k hk).2.1 e
    · exact hn.2.1 (e.symm.trans hk)
  refine ⟨⟨?_, ((h.sv.upd hu (fun k hk e => (h.g k hk).2.2.1 e)).mono (fun k hk => Or.inl hk)).upd hu2 hko, ?_, hfv.upd hu2 hko, own_upd hl hu2 (fun k e => by injection e with e; subst e; exact Ne.symm hnel), fun k hk' => ?_⟩, ?_⟩
  · rw [hel]
    have := hs.1
    rw [set_last2 _ _ _ _ _ hx.1] at this
    exact this
  · rw [hel]
    exact own_upd ho hu2 (fun k e => by injection e with e; subst e; exact Ne.symm hneo)
  · have hlt : k < w.heap.size := by
      rcases hk' with h9 | h9
      · exact (h.g k h9).1
      · obtain ⟨_, cur, hc⟩ := own_is h.l (k := kl) rfl
        rw [h9]
        exact Blk.lt hc
    refine ⟨Nat.lt_of_lt_of_le (Nat.lt_of_lt_of_le hlt hu.size) hu2.size, hko k hk', ?_, hkl k hk'⟩
    rcases hk' with h9 | h9
    · rcases hk with e | e
      · rw [e]; exact (h.g k h9).2.2.1
      · omega
    · rw [h9]; exact Ne.symm hnfl
  · exact (hu.mono (fun k _ hk => Or.inl hk)).trans (hu2.mono (fun k _ hk => Or.inr hk))
/-- A stanza begins: its cells stand in the row, its first field's row is new. -/
theorem Shu.field {A : Option Addr} {c : Nat} {L : List St} (h : Shu w base G A c xs L) {w4 w5 : World} {ko' c4 kf' c5 kl' cl' : Nat} {nm' x : ByteArray} {T : Nat → Prop} (hu : Upd T w w4) (hT : ∀ k, G k → ¬ T k) (hk : A = some ⟨ko', 0, none⟩ ∨ w.heap.size ≤ ko')
    (ho : w4.ownsRow base 34 2 (.slice (some ⟨ko', 0, none⟩) (L.length + 1) c4) (L.length + 1) (xs ++ [.int .i64 ln, .slice none 0 0])) (hu5 : Upd (fun _ => False) w4 w5) (hkf : ∀ k, G k → k ≠ kf') (hkl : ∀ k, G k → k ≠ kl')
    (hf : w5.ownsRow base 40 2 (.slice (some ⟨kf', 0, none⟩) 1 c5) 1 [.string nm', .slice (some ⟨kl', 0, none⟩) 1 cl']) (hl : w5.ownsRow base 9 1 (.slice (some ⟨kl', 0, none⟩) 1 cl') 1 [.string x]) :
    Opn (w5.setCell ⟨ko', L.length * 2 + 1, none⟩ (.slice (some ⟨kf', 0, none⟩) 1 c5)) base G ko' c4 kf' c5 kl' cl' xs [] L ln [] nm' [x] ∧ Upd (fun k => T k ∨ k = ko') w (w5.setCell ⟨ko', L.length * 2 + 1, none⟩ (.slice (some ⟨kf', 0, none⟩) 1 c5)) := by
  have h5o := own_upd ho hu5 (fun _ _ h => h)
  have hnf : ko' ≠ kf' := own_ne h5o hf (by decide)
  have hnl : ko' ≠ kl' := own_ne h5o hl (by decide)
  have hu2 : Upd (fun k => k = ko') w5 (w5.setCell ⟨ko', L.length * 2 + 1, none⟩ (.slice (some ⟨kf', 0, none⟩) 1 c5)) := (Upd.refl (fun k => k = ko') _).setCell (p := ⟨ko', L.length * 2 + 1, none⟩) (.inl rfl) _
  have hs := (h5o.stored (L.length * 2 + 1) (.slice (some ⟨kf', 0, none⟩) 1 c5))
  have hG : ∀ k, G k → ¬ k = ko' := fun k hk' e => by
    rcases hk with h9 | h9
    · exact (h.g k hk').2 (by rw [h9, e])
    · have := (h.g k hk').1; omega
  refine ⟨⟨?_, ((h.sv.upd hu hT).upd hu5 (fun _ _ h => h)).upd hu2 hG, own_upd hf hu2 (fun k e => by injection e with e; subst e; exact Ne.symm hnf), rfl, own_upd hl hu2 (fun k e => by injection e with e; subst e; exact Ne.symm hnl), fun k hk' => ?_⟩, ?_⟩
  · have := hs.1
    rw [set_last2 _ _ _ _ _ h.sv.len] at this
    exact this
  · have h9 := h.g k hk'
    exact ⟨Nat.lt_of_lt_of_le h9.1 (Nat.le_trans hu.size (Nat.le_trans hu5.size hu2.size)), hG k hk', hkf k hk', hkl k hk'⟩
  · exact ((hu.mono (fun k _ hk => Or.inl hk)).trans (hu5.mono (fun k _ hk => hk.elim))).trans (hu2.mono (fun k _ hk => Or.inr hk))
theorem Shu.at {A : Option Addr} {c : Nat} {L : List St} (h : Shu w base G A c xs L) : StzAt w (.slice A L.length c) L :=
  ⟨fun k => G k ∨ A = some ⟨k, 0, none⟩, A, c, xs, rfl, own_cap h.o, RowG.of_own h.o (fun k e => .inr e), h.sv.mono (fun k hk => .inl hk)⟩
end
end Go.Proofs.YtjkaigfpjebfbaaDoor
