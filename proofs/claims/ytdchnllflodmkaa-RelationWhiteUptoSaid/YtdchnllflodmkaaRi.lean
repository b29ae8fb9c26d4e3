/- relation.Atoms, relation.Provides, chandlerref4.Singles, chandlerref4.Provided. -/
import Derived.Test.YtdchnllflodmkaaRh
namespace Go.Proofs.Ytdchnllflodmkaa
open Go.RowKit
set_option linter.unusedVariables false
/-- Rows of one atom each. -/
def Ones (w : World) (xs : List Value) (L : List RA) : Prop :=
  xs.length = L.length ∧ ∀ j (h : j < L.length), ∃ g, xs[j]? = some (.slice (some ⟨g, 0, none⟩) 1 1) ∧ Blk w g 38 #[.string L[j].n, .int .i64 L[j].r, .string L[j].v]
theorem Ones.nil (w : World) : Ones w [] [] := ⟨rfl, fun j h => absurd h (by simp)⟩
theorem Ones.upd {T : Nat → Prop} {w w' : World} {xs : List Value} {L : List RA} (h : Ones w xs L) (hu : Upd T w w') (hT : ∀ k, T k → ¬ IsA w k) : Ones w' xs L :=
  ⟨h.1, fun j hj => by
    obtain ⟨g, h1, h2⟩ := h.2 j hj
    exact ⟨g, h1, h2.upd hu (fun ht => hT g ht ⟨_, _, h2⟩)⟩⟩
theorem Ones.snoc {w : World} {xs : List Value} {L : List RA} {a : RA} {g : Nat} (h : Ones w xs L) (hg : Blk w g 38 #[.string a.n, .int .i64 a.r, .string a.v]) : Ones w (xs ++ [.slice (some ⟨g, 0, none⟩) 1 1]) (L ++ [a]) := by
  refine ⟨by rw [List.length_append, List.length_append, h.1]; rfl, fun j hj => ?_⟩
  rw [List.length_append] at hj
  by_cases e : j < L.length
  · obtain ⟨g', h1, h2⟩ := h.2 j e
    have e1 : (L ++ [a])[j] = L[j] := List.getElem_append_left e
    exact ⟨g', by rw [List.getElem?_append_left (by rw [h.1]; exact e)]; exact h1, by rw [e1]; exact h2⟩
  · have e2 : j = L.length := by simp at hj; omega
    subst e2
    have e1 : (L ++ [a])[L.length] = a := by simp
    exact ⟨g, by rw [← h.1, List.getElem?_concat_length], by rw [e1]; exact hg⟩
theorem Ones.cls {w : World} {base m c : Nat} {A : Option Addr} {xs : List Value} {L : List RA} (h : Ones w xs L) (ho : w.ownsRow base 54 1 (.slice A m c) m xs) (hm : m = L.length) : ClsAt w (.slice A m c) (L.map (fun a => [a])) := by
  subst hm
  refine ⟨A, c, by rw [List.length_map], by rw [List.length_map]; exact (row_shape ho).1, fun j hj => ?_⟩
  rw [List.length_map] at hj
  obtain ⟨g, h1, h2⟩ := h.2 j hj
  obtain ⟨ad, e, hb, hc2⟩ := (Reads.of_own ho).2 (by omega)
  have h0 := (row_shape ho).2 _ e
  obtain ⟨g0, o, sp⟩ := ad
  have h0 : sp = none := h0
  subst h0 e
  rw [List.getElem_map]
  refine ⟨g0, o, _, rfl, by have := hc2 _ _ h1; rwa [addN] at this, some ⟨g, 0, none⟩, 1, rfl, Nat.le_refl _, fun i hi => ?_⟩
  have hi0 : i = 0 := by simp at hi; exact hi
  subst hi0
  exact ⟨g, 0, rfl, h2.cell 0, h2.cell 1, h2.cell 2⟩
/-- An atom's cells. -/
def raC (a : RA) : List Value := [.string a.n, .int .i64 a.r, .string a.v]
def catR (l : List RA) : List Value := l.flatMap raC
theorem catR_snoc (l : List RA) (a : RA) : catR (l ++ [a]) = catR l ++ raC a := by unfold catR; rw [List.flatMap_append]; simp
theorem catR_at : ∀ (l : List RA) (j : Nat) (h : j < l.length), (catR l)[j * 3]? = some (.string l[j].n) ∧ (catR l)[j * 3 + 1]? = some (.int .i64 l[j].r) ∧ (catR l)[j * 3 + 2]? = some (.string l[j].v)
  | [], j, h => absurd h (by simp)
  | a :: r, 0, h => ⟨rfl, rfl, rfl⟩
  | a :: r, j + 1, h => by
    have hr := catR_at r j (by simpa using h)
    have e : catR (a :: r) = raC a ++ catR r := rfl
    have hl : (raC a).length = 3 := rfl
    have h3 : ∀ k, (catR (a :: r))[(j + 1) * 3 + k]? = (catR r)[j * 3 + k]? := fun k => by
      rw [e, List.getElem?_append_right (by omega), hl]
      congr 1
      omega
    exact ⟨(h3 0).trans hr.1, (h3 1).trans hr.2.1, (h3 2).trans hr.2.2⟩
theorem AtsAt.of_row {w : World} {base m c : Nat} {A : Option Addr} {l : List RA} (h : w.ownsRow base 38 3 (.slice A m c) m (catR l)) (hm : m = l.length) : AtsAt w (.slice A m c) l := by
  subst hm
  refine ⟨A, c, rfl, (row_shape h).1, fun j hj => ?_⟩
  obtain ⟨ad, e, hb, hc2⟩ := (Reads.of_own h).2 (by omega)
  have h0 := (row_shape h).2 _ e
  obtain ⟨g, o, sp⟩ := ad
  have h0 : sp = none := h0
  subst h0 e
  have ha := catR_at l j hj
  refine ⟨g, o, rfl, ?_, ?_, ?_⟩
  · have := hc2 _ _ ha.1; rwa [addN] at this
  · have := hc2 _ _ ha.2.1; rwa [addN] at this
  · have := hc2 _ _ ha.2.2; rwa [addN] at this
/-- A provide as an atom. -/
def pvA (p : RP) : RA := ⟨p.n, if p.v.size = 0 then 0 else 3, p.v⟩
set_option maxRecDepth 100000 in
set_option maxHeartbeats 4000000 in
theorem Singles_any (v : Value) (L : List RA) (w : World) (h : AtsAt w v L) (hl : L.length ≤ 1048576) :
    Calls Try.prog 17 #[v] w fun e w' => ∃ v', e = .returned v' ∧ ClsAt w' v' (L.map (fun a => [a])) ∧ Below w.heap.size w w' := by
  obtain ⟨i0, hi0, hz0, hz1, hz2⟩ := info_parts cl_row
  obtain ⟨A, cA, rfl, hcA, hA⟩ := h
  have HA := Lib.hid hA
  obtain ⟨n, hn⟩ : ∃ n, n = L.length := ⟨_, rfl⟩
  rw [← hn] at hl ⊢
  have HN := Lib.hid hn
  clear hA hcA hn
  go_enter Try.func17, Try.ntmps17
  go_wp2_with fail
  go_loopw [3, 8] (fun u t wr => ∃ (i co : Nat) (Ao : Option Addr) (xs : List Value), u = .slice Ao i co ∧ t = .int .i64 (i : Int) ∧ i ≤ n ∧ Hid (wr.ownsRow w.heap.size 54 1 (.slice Ao i co) i xs) ∧ Hid (Ones wr xs (L.take i)) ∧ Hid (Below w.heap.size w wr)) (fun _ t _ => n - (match t with | .int _ x => x.toNat | _ => 0))
  case atStart => exact ⟨0, 0, none, [], rfl, rfl, Nat.zero_le _, Lib.hid (World.ownsRow_nil _ _ _ _), Lib.hid (Ones.nil _), Lib.hid (Below.refl _ _)⟩
  case round =>
    obtain ⟨i, co, Ao, xs, rfl, rfl, hi, HO, HX, HB⟩ := hrel
    by_cases hlt : i < n
    case neg =>
      have hnn : ¬ (i : Int) < (n : Int) := by omega
      have HXL := Lib.hid (show Ones wr xs L by have := HX.out; rwa [List.take_of_length_le (by have := HN.out; omega)] at this)
      have HC := Lib.hid (HXL.out.cls HO.out (by have := HN.out; omega))
      go_wp2_with fail
      go_ret
      exact ⟨_, rfl, HC.out, HB.out⟩
    obtain ⟨g, o, e1, a1, a2, a3⟩ := HA.out i (by have := HN.out; omega)
    subst e1
    have hil : i < L.length := by have := HN.out; omega
    have htk : L.take (i + 1) = L.take i ++ [L[i]'hil] := List.take_succ_eq_append_getElem hil
    obtain ⟨a, ha⟩ : ∃ a, a = L[i]'hil := ⟨_, rfl⟩
    rw [← ha] at a1 a2 a3 htk
    have HTK := Lib.hid htk
    have ka := (HB.out.cell (World.block_lt_of_cell? w _ a1)).trans a1
    have kb := (HB.out.cell (World.block_lt_of_cell? w _ a2)).trans a2
    have kc := (HB.out.cell (World.block_lt_of_cell? w _ a3)).trans a3
    obtain ⟨an, ar, av⟩ := a
    simp only at ka kb kc
    have hln : (i : Int) < (n : Int) := by omega
    clear a1 a2 a3 htk ha hil
    go_upto_region 5 with fail
    obtain ⟨b, hb⟩ : ∃ b, b = wr.heap.size := ⟨_, rfl⟩
    obtain ⟨w1, hw1⟩ : ∃ w1, w1 = wr.alloc (.cells #[.string an, .int .i64 ar, .string av] 38) := ⟨_, rfl⟩
    have hbk : Blk w1 b 38 #[.string an, .int .i64 ar, .string av] := by rw [hw1, hb]; exact Blk.new wr _ _
    have k0 : w1.cell? ⟨b, 0, none⟩ = some (.string an) := hbk.cell 0
    have k1 : w1.cell? ⟨b, 1, none⟩ = some (.int .i64 ar) := hbk.cell 1
    have k2 : w1.cell? ⟨b, 2, none⟩ = some (.string av) := hbk.cell 2
    have HO1 : Hid (w1.ownsRow w.heap.size 54 1 (.slice Ao i co) i xs) := Lib.hid (by rw [hw1]; exact HO.out.alloc _)
    have HX1 : Hid (Ones w1 xs (L.take i)) := Lib.hid (by rw [hw1]; exact HX.out.upd ((Upd.refl (fun _ => False) wr).alloc _) (fun _ h => h.elim))
    have HB1 : Hid (Below w.heap.size w w1) := Lib.hid (by rw [hw1]; exact HB.out.alloc HB.out.size _)
    have hs1 := HB1.out.size
    obtain ⟨O1, hO1⟩ : ∃ O1, O1 = Obj.cells #[.string an, .int .i64 ar, .string av] 38 := ⟨_, rfl⟩
    have hA1 : Blk (w1.alloc (.cells #[.string an, .int .i64 ar, .string av] 38)) w1.heap.size 38 #[.string an, .int .i64 ar, .string av] := Blk.new w1 _ _
    have hC1 : Blk ((w1.alloc (.cells #[.string an, .int .i64 ar, .string av] 38)).alloc (.cells #[.slice (some ⟨w1.heap.size, 0, none⟩) 1 1] 54)) (w1.heap.size + 1) 54 #[.slice (some ⟨w1.heap.size, 0, none⟩) 1 1] := by
      have := Blk.new (w1.alloc (.cells #[.string an, .int .i64 ar, .string av] 38)) 54 #[.slice (some ⟨w1.heap.size, 0, none⟩) 1 1]
      rw [World.size_alloc] at this
      exact this
    have HA1 := Lib.hid (hA1.alloc (.cells #[.slice (some ⟨w1.heap.size, 0, none⟩) 1 1] 54))
    have HC1 := Lib.hid hC1
    rw [← hw1, ← hb]
    clear hbk hw1 hb hA1 hC1 ka kb kc hO1
    go_wp2_with (at_builtin; refine wpList_append_any _ rfl (.tmp 12) (.tmp 15) 23 rfl w.heap.size 54 i0 _ 1 24 Try.underlying23 hi0 hz0 hz1 hz2 rfl (by decide) _ i xs rfl ((HO1.out.alloc _).alloc _) (w1.heap.size + 2) (some ⟨w1.heap.size + 1, 0, none⟩) 1 1 [.slice (some ⟨w1.heap.size, 0, none⟩) 1 1] rfl (reads_one HC1.out (by omega)) (fun u hu => by simp at hu; subst hu; rfl) (by unfold maxLen; omega) (by omega) (by simp; omega) ?_; intro v5 w5 hown5 hg5 hat5; have hup5 : Upd (fun m => (Value.slice Ao i co).ownBlock = some m) w1 w5 := (((Upd.refl _ w1).alloc _).alloc _).grown hg5 (fun m hm => .inl hm); have hup6 : Upd (fun m => (Value.slice Ao i co).ownBlock = some m) ((w1.alloc (.cells #[.string an, .int .i64 ar, .string av] 38)).alloc (.cells #[.slice (some ⟨w1.heap.size, 0, none⟩) 1 1] 54)) w5 := (Upd.refl _ _).grown hg5 (fun m hm => .inl hm); have HB5 := Lib.hid (HB1.out.trans (hup5.below (fun m hm => (own_is HO1.out hm).1) hs1)); have HX5 := Lib.hid ((HX1.out.upd hup5 (fun m hm => own_noA HO1.out (by decide) hm)).snoc (a := ⟨an, ar, av⟩) (HA1.out.upd hup6 (fun hm => own_noA ((HO1.out.alloc (.cells #[.string an, .int .i64 ar, .string av] 38)).alloc (.cells #[.slice (some ⟨w1.heap.size, 0, none⟩) 1 1] 54)) (by decide) hm ⟨_, _, HA1.out⟩))); obtain ⟨A5, c5, rfl⟩ := own_shape hown5; have HOW5 := Lib.hid hown5; clear hown5 hg5 hat5 hup5 hup6)
    refine ⟨⟨i + 1, c5, A5, _, rfl, by go_num, by omega, HOW5, Lib.hid (by rw [HTK.out]; exact HX5.out), HB5⟩, ?_⟩
    show n - ((i : Int) + 1).toNat < n - (i : Int).toNat
    omega
set_option maxRecDepth 100000 in
set_option maxHeartbeats 4000000 in
theorem Atoms_any (v : Value) (L : List RA) (w : World) (h : AtsAt w v L) (hl : L.length ≤ 1048576) (hsz : ∀ a ∈ L, a.n.size ≤ 1048576 ∧ a.v.size ≤ 1048576) :
    Calls Try.prog 16 #[v] w fun e w' => e = .returned (.string (Rl.tob (ltx (L.map (fun a => [a]))))) ∧ Below w.heap.size w w' := by
  obtain ⟨i0, hi0, hz0, hz1, hz2⟩ := info_parts cl_row
  obtain ⟨A, cA, rfl, hcA, hA⟩ := h
  have HA := Lib.hid hA
  obtain ⟨n, hn⟩ : ∃ n, n = L.length := ⟨_, rfl⟩
  rw [← hn] at hl ⊢
  have HN := Lib.hid hn
  have HSZ := Lib.hid hsz
  clear hA hcA hn hsz
  go_enter Try.func16, Try.ntmps16
  go_wp2_with fail
  go_loopw [3, 8] (fun u t wr => ∃ (i co : Nat) (Ao : Option Addr) (xs : List Value), u = .slice Ao i co ∧ t = .int .i64 (i : Int) ∧ i ≤ n ∧ Hid (wr.ownsRow w.heap.size 54 1 (.slice Ao i co) i xs) ∧ Hid (Ones wr xs (L.take i)) ∧ Hid (Below w.heap.size w wr)) (fun _ t _ => n - (match t with | .int _ x => x.toNat | _ => 0))
  case atStart => exact ⟨0, 0, none, [], rfl, rfl, Nat.zero_le _, Lib.hid (World.ownsRow_nil _ _ _ _), Lib.hid (Ones.nil _), Lib.hid (Below.refl _ _)⟩
  case round =>
    obtain ⟨i, co, Ao, xs, rfl, rfl, hi, HO, HX, HB⟩ := hrel
    by_cases hlt : i < n
    case neg =>
      have hnn : ¬ (i : Int) < (n : Int) := by omega
      have HXL := Lib.hid (show Ones wr xs L by have := HX.out; rwa [List.take_of_length_le (by have := HN.out; omega)] at this)
      have HC := Lib.hid (HXL.out.cls HO.out (by have := HN.out; omega))
      have HT := Lib.hid (Text_any _ _ wr HC.out (fun c hc a ha => by
        obtain ⟨b, hb, rfl⟩ := List.mem_map.1 hc
        have e : a = b := by simpa using ha
        rw [e]; exact HSZ.out b hb))
      go_wp2_with (go_at_call 14; refine HT.out.mono ?_; rintro e w2 ⟨rfl, hb2⟩)
      go_ret
      exact ⟨rfl, HB.out.trans (hb2.mono HB.out.size)⟩
    obtain ⟨g, o, e1, a1, a2, a3⟩ := HA.out i (by have := HN.out; omega)
    subst e1
    have hil : i < L.length := by have := HN.out; omega
    have htk : L.take (i + 1) = L.take i ++ [L[i]'hil] := List.take_succ_eq_append_getElem hil
    obtain ⟨a, ha⟩ : ∃ a, a = L[i]'hil := ⟨_, rfl⟩
    rw [← ha] at a1 a2 a3 htk
    have HTK := Lib.hid htk
    have ka := (HB.out.cell (World.block_lt_of_cell? w _ a1)).trans a1
    have kb := (HB.out.cell (World.block_lt_of_cell? w _ a2)).trans a2
    have kc := (HB.out.cell (World.block_lt_of_cell? w _ a3)).trans a3
    obtain ⟨an, ar, av⟩ := a
    simp only at ka kb kc
    have hln : (i : Int) < (n : Int) := by omega
    clear a1 a2 a3 htk ha hil
    go_upto_region 5 with fail
    obtain ⟨b, hb⟩ : ∃ b, b = wr.heap.size := ⟨_, rfl⟩
    obtain ⟨w1, hw1⟩ : ∃ w1, w1 = wr.alloc (.cells #[.string an, .int .i64 ar, .string av] 38) := ⟨_, rfl⟩
    have hbk : Blk w1 b 38 #[.string an, .int .i64 ar, .string av] := by rw [hw1, hb]; exact Blk.new wr _ _
    have k0 : w1.cell? ⟨b, 0, none⟩ = some (.string an) := hbk.cell 0
    have k1 : w1.cell? ⟨b, 1, none⟩ = some (.int .i64 ar) := hbk.cell 1
    have k2 : w1.cell? ⟨b, 2, none⟩ = some (.string av) := hbk.cell 2
    have HO1 : Hid (w1.ownsRow w.heap.size 54 1 (.slice Ao i co) i xs) := Lib.hid (by rw [hw1]; exact HO.out.alloc _)
    have HX1 : Hid (Ones w1 xs (L.take i)) := Lib.hid (by rw [hw1]; exact HX.out.upd ((Upd.refl (fun _ => False) wr).alloc _) (fun _ h => h.elim))
    have HB1 : Hid (Below w.heap.size w w1) := Lib.hid (by rw [hw1]; exact HB.out.alloc HB.out.size _)
    have hs1 := HB1.out.size
    obtain ⟨O1, hO1⟩ : ∃ O1, O1 = Obj.cells #[.string an, .int .i64 ar, .string av] 38 := ⟨_, rfl⟩
    have hA1 : Blk (w1.alloc (.cells #[.string an, .int .i64 ar, .string av] 38)) w1.heap.size 38 #[.string an, .int .i64 ar, .string av] := Blk.new w1 _ _
    have hC1 : Blk ((w1.alloc (.cells #[.string an, .int .i64 ar, .string av] 38)).alloc (.cells #[.slice (some ⟨w1.heap.size, 0, none⟩) 1 1] 54)) (w1.heap.size + 1) 54 #[.slice (some ⟨w1.heap.size, 0, none⟩) 1 1] := by
      have := Blk.new (w1.alloc (.cells #[.string an, .int .i64 ar, .string av] 38)) 54 #[.slice (some ⟨w1.heap.size, 0, none⟩) 1 1]
      rw [World.size_alloc] at this
      exact this
    have HA1 := Lib.hid (hA1.alloc (.cells #[.slice (some ⟨w1.heap.size, 0, none⟩) 1 1] 54))
    have HC1 := Lib.hid hC1
    rw [← hw1, ← hb]
    clear hbk hw1 hb hA1 hC1 ka kb kc hO1
    go_wp2_with (at_builtin; refine wpList_append_any _ rfl (.tmp 12) (.tmp 15) 23 rfl w.heap.size 54 i0 _ 1 24 Try.underlying23 hi0 hz0 hz1 hz2 rfl (by decide) _ i xs rfl ((HO1.out.alloc _).alloc _) (w1.heap.size + 2) (some ⟨w1.heap.size + 1, 0, none⟩) 1 1 [.slice (some ⟨w1.heap.size, 0, none⟩) 1 1] rfl (reads_one HC1.out (by omega)) (fun u hu => by simp at hu; subst hu; rfl) (by unfold maxLen; omega) (by omega) (by simp; omega) ?_; intro v5 w5 hown5 hg5 hat5; have hup5 : Upd (fun m => (Value.slice Ao i co).ownBlock = some m) w1 w5 := (((Upd.refl _ w1).alloc _).alloc _).grown hg5 (fun m hm => .inl hm); have hup6 : Upd (fun m => (Value.slice Ao i co).ownBlock = some m) ((w1.alloc (.cells #[.string an, .int .i64 ar, .string av] 38)).alloc (.cells #[.slice (some ⟨w1.heap.size, 0, none⟩) 1 1] 54)) w5 := (Upd.refl _ _).grown hg5 (fun m hm => .inl hm); have HB5 := Lib.hid (HB1.out.trans (hup5.below (fun m hm => (own_is HO1.out hm).1) hs1)); have HX5 := Lib.hid ((HX1.out.upd hup5 (fun m hm => own_noA HO1.out (by decide) hm)).snoc (a := ⟨an, ar, av⟩) (HA1.out.upd hup6 (fun hm => own_noA ((HO1.out.alloc (.cells #[.string an, .int .i64 ar, .string av] 38)).alloc (.cells #[.slice (some ⟨w1.heap.size, 0, none⟩) 1 1] 54)) (by decide) hm ⟨_, _, HA1.out⟩))); obtain ⟨A5, c5, rfl⟩ := own_shape hown5; have HOW5 := Lib.hid hown5; clear hown5 hg5 hat5 hup5 hup6)
    refine ⟨⟨i + 1, c5, A5, _, rfl, by go_num, by omega, HOW5, Lib.hid (by rw [HTK.out]; exact HX5.out), HB5⟩, ?_⟩
    show n - ((i : Int) + 1).toNat < n - (i : Int).toNat
    omega
set_option maxRecDepth 100000 in
set_option maxHeartbeats 4000000 in
theorem Provided_any (v : Value) (L : List RP) (w : World) (h : PrsAt w v L) (hl : L.length ≤ 1048576) :
    Calls Try.prog 19 #[v] w fun e w' => ∃ v', e = .returned v' ∧ AtsAt w' v' (L.map pvA) ∧ Below w.heap.size w w' := by
  obtain ⟨i0, hi0, hz0, hz1, hz2⟩ := info_parts atom_row
  obtain ⟨A, cA, rfl, hcA, hA⟩ := h
  have HA := Lib.hid hA
  obtain ⟨n, hn⟩ : ∃ n, n = L.length := ⟨_, rfl⟩
  rw [← hn] at hl ⊢
  have HN := Lib.hid hn
  clear hA hcA hn
  go_enter Try.func19, Try.ntmps19
  go_wp2_with fail
  go_loopw [3, 9] (fun u t wr => ∃ (i co : Nat) (Ao : Option Addr), u = .slice Ao i co ∧ t = .int .i64 (i : Int) ∧ i ≤ n ∧ Hid (wr.ownsRow w.heap.size 38 3 (.slice Ao i co) i (catR ((L.take i).map pvA))) ∧ Hid (Below w.heap.size w wr)) (fun _ t _ => n - (match t with | .int _ x => x.toNat | _ => 0))
  case atStart => exact ⟨0, 0, none, rfl, rfl, Nat.zero_le _, Lib.hid (World.ownsRow_nil _ _ _ _), Lib.hid (Below.refl _ _)⟩
  case round =>
    obtain ⟨i, co, Ao, rfl, rfl, hi, HO, HB⟩ := hrel
    by_cases hlt : i < n
    case neg =>
      have hnn : ¬ (i : Int) < (n : Int) := by omega
      have HC := Lib.hid (show AtsAt wr (.slice Ao i co) (L.map pvA) from AtsAt.of_row (base := w.heap.size) (by have := HO.out; rwa [List.take_of_length_le (by have := HN.out; omega)] at this) (by rw [List.length_map]; have := HN.out; omega))
      go_wp2_with fail
      go_ret
      exact ⟨_, rfl, HC.out, HB.out⟩
    obtain ⟨g, o, e1, a1, a3⟩ := HA.out i (by have := HN.out; omega)
    subst e1
    have hil : i < L.length := by have := HN.out; omega
    have htk := take_map_succ pvA L i hil
    obtain ⟨a, ha⟩ : ∃ a, a = L[i]'hil := ⟨_, rfl⟩
    rw [← ha] at a1 a3 htk
    have HTK := Lib.hid htk
    have ka := (HB.out.cell (World.block_lt_of_cell? w _ a1)).trans a1
    have kc := (HB.out.cell (World.block_lt_of_cell? w _ a3)).trans a3
    obtain ⟨an, av⟩ := a
    simp only at ka kc
    have hln : (i : Int) < (n : Int) := by omega
    clear a1 a3 htk ha hil
    go_upto_region 5 with fail
    obtain ⟨b, hb⟩ : ∃ b, b = wr.heap.size := ⟨_, rfl⟩
    obtain ⟨w1, hw1⟩ : ∃ w1, w1 = wr.alloc (.cells #[.string an, .string av] 65) := ⟨_, rfl⟩
    have hbk : Blk w1 b 65 #[.string an, .string av] := by rw [hw1, hb]; exact Blk.new wr _ _
    have k0 : w1.cell? ⟨b, 0, none⟩ = some (.string an) := hbk.cell 0
    have k1 : w1.cell? ⟨b, 1, none⟩ = some (.string av) := hbk.cell 1
    have HO1 : Hid (w1.ownsRow w.heap.size 38 3 (.slice Ao i co) i (catR ((L.take i).map pvA))) := Lib.hid (by rw [hw1]; exact HO.out.alloc _)
    have HB1 : Hid (Below w.heap.size w w1) := Lib.hid (by rw [hw1]; exact HB.out.alloc HB.out.size _)
    have HK := Lib.hid hbk
    rw [← hw1, ← hb]
    clear hbk hw1 hb ka kc HO HB
    go_upto_region 6 with fail
    obtain ⟨b2, hb2⟩ : ∃ b2, b2 = w1.heap.size := ⟨_, rfl⟩
    obtain ⟨w2, hw2⟩ : ∃ w2, w2 = w1.alloc (.cells #[.string an, .int .i64 0, .string av] 38) := ⟨_, rfl⟩
    have hbk2 : Blk w2 b2 38 #[.string an, .int .i64 0, .string av] := by rw [hw2, hb2]; exact Blk.new w1 _ _
    have HB2 : Hid (Below w.heap.size w w2) := Lib.hid (by rw [hw2]; exact HB1.out.alloc HB1.out.size _)
    have HO2 : Hid (w2.ownsRow w.heap.size 38 3 (.slice Ao i co) i (catR ((L.take i).map pvA))) := Lib.hid (by rw [hw2]; exact HO1.out.alloc _)
    have hne : (Value.slice Ao i co).ownBlock ≠ some b2 := fun e => by
      obtain ⟨_, cur, hc⟩ := own_is HO1.out e
      have := Blk.lt (show Blk w1 b2 _ cur from hc)
      omega
    have hbge : w.heap.size ≤ b2 := by rw [hb2]; exact HB1.out.size
    have k2 : w2.cell? ⟨b, 1, none⟩ = some (.string av) := by rw [hw2]; exact (HK.out.alloc _).cell 1
    have HK2 := Lib.hid hbk2
    have HNE := Lib.hid hne
    rw [← hw2, ← hb2]
    clear hbk2 hw2 hb2 k0 k1 HO1 HB1 HK hne
    by_cases hv : 1 ≤ av.size
    · have n0 := str_ne hv
      have HTK2 : Hid ((L.take (i + 1)).map pvA = (L.take i).map pvA ++ [⟨an, 3, av⟩]) := Lib.hid (by rw [HTK.out]; unfold pvA; rw [if_neg (by show ¬ av.size = 0; omega)])
      have fz : w2.frozen? ⟨b2, 1, none⟩ = false := HK2.out.frozen 1
      have k9 : w2.cell? ⟨b2, 1, none⟩ = some (.int .i64 0) := HK2.out.cell 1
      clear hv
      go_upto_region 8 with fail
      obtain ⟨w3, hw3⟩ : ∃ w3, w3 = w2.setCell ⟨b2, 1, none⟩ (.int .i64 3) := ⟨_, rfl⟩
      have hbk3 : Blk w3 b2 38 #[.string an, .int .i64 3, .string av] := by
        have := HK2.out.set_ 1 (.int .i64 3)
        rw [hw3]
        simpa using this
      have hu3 : Upd (fun k => k = b2) w2 w3 := by rw [hw3]; exact (Upd.refl (fun k => k = b2) _).setCell (p := ⟨b2, 1, none⟩) (.inl rfl) _
      have HB3 : Hid (Below w.heap.size w w3) := Lib.hid (HB2.out.trans (hu3.below (fun k hk => by rw [hk]; exact hbge) HB2.out.size))
      have HO3 := Lib.hid (own_upd HO2.out hu3 (fun k hk e => HNE.out (by rw [hk, e])))
      have k0 : w3.cell? ⟨b2, 0, none⟩ = some (.string an) := hbk3.cell 0
      have k1 : w3.cell? ⟨b2, 1, none⟩ = some (.int .i64 3) := hbk3.cell 1
      have k3 : w3.cell? ⟨b2, 2, none⟩ = some (.string av) := hbk3.cell 2
      rw [← hw3]
      clear hw3 hbk3 hu3 fz k9 k2 HO2 HB2 HK2 HNE
      have hs1 := HB3.out.size
      go_wp2_with (at_builtin; refine wpList_append_any _ rfl (.tmp 22) (.tmp 24) 35 rfl w.heap.size 38 i0 _ 3 40 Try.underlying35 hi0 hz0 hz1 hz2 rfl (by decide) _ i _ rfl (HO3.out.alloc _) (w3.heap.size + 1) (some ⟨w3.heap.size, 0, none⟩) 1 1 [.string an, .int .i64 3, .string av] rfl (reads_three (Blk.new w3 _ _) (by simp)) (fun u hu => by simp at hu; rcases hu with rfl | rfl | rfl <;> rfl) (by unfold maxLen; omega) (by omega) (by simp; omega) ?_; intro v5 w5 hown5 hg5 hat5; have hup5 : Upd (fun m => (Value.slice Ao i co).ownBlock = some m) w3 w5 := ((Upd.refl _ w3).alloc _).grown hg5 (fun m hm => .inl hm); have HB5 := Lib.hid (HB3.out.trans (hup5.below (fun m hm => (own_is HO3.out hm).1) hs1)); obtain ⟨A5, c5, rfl⟩ := own_shape hown5; have HOW5 := Lib.hid hown5; clear hown5 hg5 hat5 hup5)
      refine ⟨⟨i + 1, c5, A5, rfl, by go_num, by omega, Lib.hid (by rw [HTK2.out, catR_snoc]; exact HOW5.out), HB5⟩, ?_⟩
      show n - ((i : Int) + 1).toNat < n - (i : Int).toNat
      omega
    · have hv0 := str_nil hv
      have n0 : av.toList.isEmpty = true := by rw [hv0, ByteArray.toList_eq]; rfl
      have HTK2 : Hid ((L.take (i + 1)).map pvA = (L.take i).map pvA ++ [⟨an, 0, av⟩]) := Lib.hid (by rw [HTK.out]; unfold pvA; rw [if_pos (by show av.size = 0; omega)])
      have k0 : w2.cell? ⟨b2, 0, none⟩ = some (.string an) := HK2.out.cell 0
      have k1 : w2.cell? ⟨b2, 1, none⟩ = some (.int .i64 0) := HK2.out.cell 1
      have k3 : w2.cell? ⟨b2, 2, none⟩ = some (.string av) := HK2.out.cell 2
      have hs1 := HB2.out.size
      clear hv hv0 HK2 HNE
      go_wp2_with (at_builtin; refine wpList_append_any _ rfl (.tmp 22) (.tmp 24) 35 rfl w.heap.size 38 i0 _ 3 40 Try.underlying35 hi0 hz0 hz1 hz2 rfl (by decide) _ i _ rfl (HO2.out.alloc _) (w2.heap.size + 1) (some ⟨w2.heap.size, 0, none⟩) 1 1 [.string an, .int .i64 0, .string av] rfl (reads_three (Blk.new w2 _ _) (by simp)) (fun u hu => by simp at hu; rcases hu with rfl | rfl | rfl <;> rfl) (by unfold maxLen; omega) (by omega) (by simp; omega) ?_; intro v5 w5 hown5 hg5 hat5; have hup5 : Upd (fun m => (Value.slice Ao i co).ownBlock = some m) w2 w5 := ((Upd.refl _ w2).alloc _).grown hg5 (fun m hm => .inl hm); have HB5 := Lib.hid (HB2.out.trans (hup5.below (fun m hm => (own_is HO2.out hm).1) hs1)); obtain ⟨A5, c5, rfl⟩ := own_shape hown5; have HOW5 := Lib.hid hown5; clear hown5 hg5 hat5 hup5)
      refine ⟨⟨i + 1, c5, A5, rfl, by go_num, by omega, Lib.hid (by rw [HTK2.out, catR_snoc]; exact HOW5.out), HB5⟩, ?_⟩
      show n - ((i : Int) + 1).toNat < n - (i : Int).toNat
      omega
set_option maxRecDepth 100000 in
set_option maxHeartbeats 4000000 in
theorem Provides_any (v : Value) (L : List RP) (w : World) (h : PrsAt w v L) (hl : L.length ≤ 1048576) (hsz : ∀ a ∈ L, a.n.size ≤ 1048576 ∧ a.v.size ≤ 1048576) :
    Calls Try.prog 18 #[v] w fun e w' => e = .returned (.string (Rl.tob (ltx ((L.map pvA).map (fun a => [a]))))) ∧ Below w.heap.size w w' := by
  obtain ⟨i0, hi0, hz0, hz1, hz2⟩ := info_parts atom_row
  obtain ⟨X, hX⟩ : ∃ X, X = Rl.tob (ltx ((L.map pvA).map (fun a => [a]))) := ⟨_, rfl⟩
  rw [← hX]
  have HXX := Lib.hid hX
  clear hX
  obtain ⟨A, cA, rfl, hcA, hA⟩ := h
  have HA := Lib.hid hA
  obtain ⟨n, hn⟩ : ∃ n, n = L.length := ⟨_, rfl⟩
  rw [← hn] at hl ⊢
  have HN := Lib.hid hn
  have HSZ := Lib.hid hsz
  clear hA hcA hn hsz
  go_enter Try.func18, Try.ntmps18
  go_wp2_with fail
  go_loopw [3, 9] (fun u t wr => ∃ (i co : Nat) (Ao : Option Addr), u = .slice Ao i co ∧ t = .int .i64 (i : Int) ∧ i ≤ n ∧ Hid (wr.ownsRow w.heap.size 38 3 (.slice Ao i co) i (catR ((L.take i).map pvA))) ∧ Hid (Below w.heap.size w wr)) (fun _ t _ => n - (match t with | .int _ x => x.toNat | _ => 0))
  case atStart => exact ⟨0, 0, none, rfl, rfl, Nat.zero_le _, Lib.hid (World.ownsRow_nil _ _ _ _), Lib.hid (Below.refl _ _)⟩
  case round =>
    obtain ⟨i, co, Ao, rfl, rfl, hi, HO, HB⟩ := hrel
    by_cases hlt : i < n
    case neg =>
      have hnn : ¬ (i : Int) < (n : Int) := by omega
      have HC := Lib.hid (show AtsAt wr (.slice Ao i co) (L.map pvA) from AtsAt.of_row (base := w.heap.size) (by have := HO.out; rwa [List.take_of_length_le (by have := HN.out; omega)] at this) (by rw [List.length_map]; have := HN.out; omega))
      have hT := (Atoms_any _ _ wr HC.out (by rw [List.length_map]; have := HN.out; omega) (fun a ha => by
        obtain ⟨b, hb, rfl⟩ := List.mem_map.1 ha
        exact HSZ.out b hb))
      rw [← HXX.out] at hT
      have HT := Lib.hid hT
      clear hT
      go_wp2_with (go_at_call 16; refine HT.out.mono ?_; rintro e w2 ⟨rfl, hb2⟩)
      go_ret
      exact ⟨rfl, HB.out.trans (hb2.mono HB.out.size)⟩
    obtain ⟨g, o, e1, a1, a3⟩ := HA.out i (by have := HN.out; omega)
    subst e1
    have hil : i < L.length := by have := HN.out; omega
    have htk := take_map_succ pvA L i hil
    obtain ⟨a, ha⟩ : ∃ a, a = L[i]'hil := ⟨_, rfl⟩
    rw [← ha] at a1 a3 htk
    have HTK := Lib.hid htk
    have ka := (HB.out.cell (World.block_lt_of_cell? w _ a1)).trans a1
    have kc := (HB.out.cell (World.block_lt_of_cell? w _ a3)).trans a3
    obtain ⟨an, av⟩ := a
    simp only at ka kc
    have hln : (i : Int) < (n : Int) := by omega
    clear a1 a3 htk ha hil
    go_upto_region 5 with fail
    obtain ⟨b, hb⟩ : ∃ b, b = wr.heap.size := ⟨_, rfl⟩
    obtain ⟨w1, hw1⟩ : ∃ w1, w1 = wr.alloc (.cells #[.string an, .string av] 65) := ⟨_, rfl⟩
    have hbk : Blk w1 b 65 #[.string an, .string av] := by rw [hw1, hb]; exact Blk.new wr _ _
    have k0 : w1.cell? ⟨b, 0, none⟩ = some (.string an) := hbk.cell 0
    have k1 : w1.cell? ⟨b, 1, none⟩ = some (.string av) := hbk.cell 1
    have HO1 : Hid (w1.ownsRow w.heap.size 38 3 (.slice Ao i co) i (catR ((L.take i).map pvA))) := Lib.hid (by rw [hw1]; exact HO.out.alloc _)
    have HB1 : Hid (Below w.heap.size w w1) := Lib.hid (by rw [hw1]; exact HB.out.alloc HB.out.size _)
    have HK := Lib.hid hbk
    rw [← hw1, ← hb]
    clear hbk hw1 hb ka kc HO HB
    go_upto_region 6 with fail
    obtain ⟨b2, hb2⟩ : ∃ b2, b2 = w1.heap.size := ⟨_, rfl⟩
    obtain ⟨w2, hw2⟩ : ∃ w2, w2 = w1.alloc (.cells #[.string an, .int .i64 0, .string av] 38) := ⟨_, rfl⟩
    have hbk2 : Blk w2 b2 38 #[.string an, .int .i64 0, .string av] := by rw [hw2, hb2]; exact Blk.new w1 _ _
    have HB2 : Hid (Below w.heap.size w w2) := Lib.hid (by rw [hw2]; exact HB1.out.alloc HB1.out.size _)
    have HO2 : Hid (w2.ownsRow w.heap.size 38 3 (.slice Ao i co) i (catR ((L.take i).map pvA))) := Lib.hid (by rw [hw2]; exact HO1.out.alloc _)
    have hne : (Value.slice Ao i co).ownBlock ≠ some b2 := fun e => by
      obtain ⟨_, cur, hc⟩ := own_is HO1.out e
      have := Blk.lt (show Blk w1 b2 _ cur from hc)
      omega
    have hbge : w.heap.size ≤ b2 := by rw [hb2]; exact HB1.out.size
    have k2 : w2.cell? ⟨b, 1, none⟩ = some (.string av) := by rw [hw2]; exact (HK.out.alloc _).cell 1
    have HK2 := Lib.hid hbk2
    have HNE := Lib.hid hne
    rw [← hw2, ← hb2]
    clear hbk2 hw2 hb2 k0 k1 HO1 HB1 HK hne
    by_cases hv : 1 ≤ av.size
    · have n0 := str_ne hv
      have HTK2 : Hid ((L.take (i + 1)).map pvA = (L.take i).map pvA ++ [⟨an, 3, av⟩]) := Lib.hid (by rw [HTK.out]; unfold pvA; rw [if_neg (by show ¬ av.size = 0; omega)])
      have fz : w2.frozen? ⟨b2, 1, none⟩ = false := HK2.out.frozen 1
      have k9 : w2.cell? ⟨b2, 1, none⟩ = some (.int .i64 0) := HK2.out.cell 1
      clear hv
      go_upto_region 8 with fail
      obtain ⟨w3, hw3⟩ : ∃ w3, w3 = w2.setCell ⟨b2, 1, none⟩ (.int .i64 3) := ⟨_, rfl⟩
      have hbk3 : Blk w3 b2 38 #[.string an, .int .i64 3, .string av] := by
        have := HK2.out.set_ 1 (.int .i64 3)
        rw [hw3]
        simpa using this
      have hu3 : Upd (fun k => k = b2) w2 w3 := by rw [hw3]; exact (Upd.refl (fun k => k = b2) _).setCell (p := ⟨b2, 1, none⟩) (.inl rfl) _
      have HB3 : Hid (Below w.heap.size w w3) := Lib.hid (HB2.out.trans (hu3.below (fun k hk => by rw [hk]; exact hbge) HB2.out.size))
      have HO3 := Lib.hid (own_upd HO2.out hu3 (fun k hk e => HNE.out (by rw [hk, e])))
      have k0 : w3.cell? ⟨b2, 0, none⟩ = some (.string an) := hbk3.cell 0
      have k1 : w3.cell? ⟨b2, 1, none⟩ = some (.int .i64 3) := hbk3.cell 1
      have k3 : w3.cell? ⟨b2, 2, none⟩ = some (.string av) := hbk3.cell 2
      rw [← hw3]
      clear hw3 hbk3 hu3 fz k9 k2 HO2 HB2 HK2 HNE
      have hs1 := HB3.out.size
      go_wp2_with (at_builtin; refine wpList_append_any _ rfl (.tmp 22) (.tmp 24) 35 rfl w.heap.size 38 i0 _ 3 40 Try.underlying35 hi0 hz0 hz1 hz2 rfl (by decide) _ i _ rfl (HO3.out.alloc _) (w3.heap.size + 1) (some ⟨w3.heap.size, 0, none⟩) 1 1 [.string an, .int .i64 3, .string av] rfl (reads_three (Blk.new w3 _ _) (by simp)) (fun u hu => by simp at hu; rcases hu with rfl | rfl | rfl <;> rfl) (by unfold maxLen; omega) (by omega) (by simp; omega) ?_; intro v5 w5 hown5 hg5 hat5; have hup5 : Upd (fun m => (Value.slice Ao i co).ownBlock = some m) w3 w5 := ((Upd.refl _ w3).alloc _).grown hg5 (fun m hm => .inl hm); have HB5 := Lib.hid (HB3.out.trans (hup5.below (fun m hm => (own_is HO3.out hm).1) hs1)); obtain ⟨A5, c5, rfl⟩ := own_shape hown5; have HOW5 := Lib.hid hown5; clear hown5 hg5 hat5 hup5)
      refine ⟨⟨i + 1, c5, A5, rfl, by go_num, by omega, Lib.hid (by rw [HTK2.out, catR_snoc]; exact HOW5.out), HB5⟩, ?_⟩
      show n - ((i : Int) + 1).toNat < n - (i : Int).toNat
      omega
    · have hv0 := str_nil hv
      have n0 : av.toList.isEmpty = true := by rw [hv0, ByteArray.toList_eq]; rfl
      have HTK2 : Hid ((L.take (i + 1)).map pvA = (L.take i).map pvA ++ [⟨an, 0, av⟩]) := Lib.hid (by rw [HTK.out]; unfold pvA; rw [if_pos (by show av.size = 0; omega)])
      have k0 : w2.cell? ⟨b2, 0, none⟩ = some (.string an) := HK2.out.cell 0
      have k1 : w2.cell? ⟨b2, 1, none⟩ = some (.int .i64 0) := HK2.out.cell 1
      have k3 : w2.cell? ⟨b2, 2, none⟩ = some (.string av) := HK2.out.cell 2
      have hs1 := HB2.out.size
      clear hv hv0 HK2 HNE
      go_wp2_with (at_builtin; refine wpList_append_any _ rfl (.tmp 22) (.tmp 24) 35 rfl w.heap.size 38 i0 _ 3 40 Try.underlying35 hi0 hz0 hz1 hz2 rfl (by decide) _ i _ rfl (HO2.out.alloc _) (w2.heap.size + 1) (some ⟨w2.heap.size, 0, none⟩) 1 1 [.string an, .int .i64 0, .string av] rfl (reads_three (Blk.new w2 _ _) (by simp)) (fun u hu => by simp at hu; rcases hu with rfl | rfl | rfl <;> rfl) (by unfold maxLen; omega) (by omega) (by simp; omega) ?_; intro v5 w5 hown5 hg5 hat5; have hup5 : Upd (fun m => (Value.slice Ao i co).ownBlock = some m) w2 w5 := ((Upd.refl _ w2).alloc _).grown hg5 (fun m hm => .inl hm); have HB5 := Lib.hid (HB2.out.trans (hup5.below (fun m hm => (own_is HO2.out hm).1) hs1)); obtain ⟨A5, c5, rfl⟩ := own_shape hown5; have HOW5 := Lib.hid hown5; clear hown5 hg5 hat5 hup5)
      refine ⟨⟨i + 1, c5, A5, rfl, by go_num, by omega, Lib.hid (by rw [HTK2.out, catR_snoc]; exact HOW5.out), HB5⟩, ?_⟩
      show n - ((i : Int) + 1).toNat < n - (i : Int).toNat
      omega
end Go.Proofs.Ytdchnllflodmkaa
