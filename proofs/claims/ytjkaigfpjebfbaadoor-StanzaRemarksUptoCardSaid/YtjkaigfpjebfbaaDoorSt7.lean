/- stanza's reader: field, where nothing is open. -/
import Derived.Test.YtjkaigfpjebfbaaDoorSt6
namespace Go.Proofs.YtjkaigfpjebfbaaDoor
open Go.RowKit
set_option linter.unusedVariables false

theorem own_at2 {w w2 : World} {base : Nat} {e : TypeId} {size r r' c c' : Nat} {A : Option Addr} {xs : List Value} {o : Obj} {kl' : Nat} (ho : w.ownsRow base e size (.slice A r c) r xs) (h : (Value.slice (some ⟨kl', 0, none⟩) r' c').ownBlock = (Value.slice A r c).ownBlock ∨ (Value.slice (some ⟨kl', 0, none⟩) r' c').ownBlock = some (w2.alloc o).heap.size) : A = some ⟨kl', 0, none⟩ ∨ w2.heap.size ≤ kl' := by
  rcases h with h | h
  · have e1 : some kl' = (Value.slice A r c).ownBlock := h
    rcases ho.2 with ⟨e2, _⟩ | ⟨g, cap, cur, e2, _⟩
    · rw [e2] at e1; cases e1
    · rw [e2] at e1
      have e1 : some kl' = some g := e1
      injection e1 with e1
      injection e2 with e2 _ _
      rw [e2, e1]
      exact .inl rfl
  · have e1 : some kl' = some (w2.alloc o).heap.size := h
    injection e1 with e1
    right
    rw [e1, World.size_alloc]
    omega
theorem own_at3 {w2 : World} {o : Obj} {kl' r' c' : Nat} (h : (Value.slice (some ⟨kl', 0, none⟩) r' c').ownBlock = (Value.slice none 0 0).ownBlock ∨ (Value.slice (some ⟨kl', 0, none⟩) r' c').ownBlock = some (w2.alloc o).heap.size) : w2.heap.size ≤ kl' := by
  rcases h with h | h
  · have e1 : some kl' = none := h
    cases e1
  · have e1 : some kl' = some (w2.alloc o).heap.size := h
    injection e1 with e1
    rw [e1, World.size_alloc]
    omega
set_option maxRecDepth 100000 in
set_option maxHeartbeats 8000000 in
theorem field_shut (q base : Nat) (L : List St) (s : ByteArray) (ln : Int) (w : World) (h : RdS w base q (.shut L)) (hn : ¬ (nameN s = 0 ∨ nameN s = s.size)) (hs : s.size ≤ 1048576) (hbq : base ≤ q) (hbw : base ≤ w.heap.size)
    (hT : Lib.Utf8Tabs 0 1 w) (hL : L.length ≤ 1048576) :
    Calls Tryd.prog 42 #[.pointer (some ⟨q, 0, none⟩), .string s, .int .i64 ln] w fun e w' => FldRes w w' base q e (fieldS s ln (.shut L)) := by
  obtain ⟨res, hres⟩ : ∃ res, res = fieldS s ln (.shut L) := ⟨_, rfl⟩
  have hres2 : res = if L.length = 200 then .error 12 else .ok (.opn L ln [] (s.extract 0 (nameN s)) [trimB (s.extract (nameN s + 1) s.size)]) := by
    rw [hres]; unfold fieldS; rw [if_neg hn]
  rw [← hres]
  have HN := Lib.hid (fun W => name_any s W (by omega))
  have hle := nameN_le s
  obtain ⟨n, hnn⟩ : ∃ n, n = nameN s := ⟨_, rfl⟩
  rw [← hnn] at HN hn hle
  have e1 : ((n : Int) == 0) = false := by rw [beq_eq_false_iff_ne]; omega
  have e2 : ((n : Int) == (s.size : Int)) = false := by rw [beq_eq_false_iff_ne]; omega
  have p1 : (n : Int) + 1 ≤ (s.size : Int) := by omega
  have p2 : (n : Int) ≤ (s.size : Int) := by omega
  have p3 : (0 : Int) ≤ (n : Int) + 1 := by omega
  have p4 : IntKind.i64.wrap ((n : Int) + 1) = (n : Int) + 1 := IntWalk.i64_in _ (by omega)
  have p5 : ((n : Int) + 1).toNat = n + 1 := by omega
  obtain ⟨x, hx⟩ : ∃ x, x = trimB (s.extract (n + 1) s.size) := ⟨_, rfl⟩
  have HTR0 : Hid (∀ W, Below w.heap.size w W → Calls Tryd.prog 31 #[.string (s.extract (n + 1) s.size)] W fun e w' => e = .returned (.string x) ∧ Lat W w') := Lib.hid (fun W hW => by
    rw [hx]
    exact Trim_any _ W (by rw [ByteArray.size_extract]; omega) (tabs_later hT hW))
  obtain ⟨nm', hnm'⟩ : ∃ nm', nm' = s.extract 0 n := ⟨_, rfl⟩
  have hex : s.extract 0 n = nm' := hnm'.symm
  rw [← hnn, ← hx, ← hnm'] at hres2
  have HRES := Lib.hid hres2
  have hnms : nm'.size ≤ 1048576 := by rw [hnm', ByteArray.size_extract]; omega
  have HXX := Lib.hid hx
  have HNM := Lib.hid hnm'
  have HNN := Lib.hid hnn
  have HH := Lib.hid h
  have HT := Lib.hid hT
  clear hx hnm' hnn h hT hn hle hres hres2
  go_enter Tryd.func42, Tryd.ntmps42
  go_upto_region 4 with (go_at_call 49; refine (HN.out _).mono ?_; rintro e w1 ⟨rfl, hb1⟩; have HB1 := Lib.hid hb1; clear hb1)
  have HBZ := Lib.hid HB1.out.size
  go_cut [8] (fun v wx => ∃ bf bl, v = .pointer (some ⟨bf, 0, none⟩) ∧ Hid (Blk wx bf 40 #[.string nm', .slice (some ⟨bl, 0, none⟩) 1 1] ∧ Blk wx bl 9 #[.string x] ∧ w1.heap.size ≤ bf ∧ w1.heap.size ≤ bl) ∧ Hid (Below w1.heap.size w1 wx))
  case first =>
    have HTR : Hid (∀ W, Soft w1.heap.size 40 w1 W → Calls Tryd.prog 31 #[.string (s.extract (n + 1) s.size)] W fun e w' => e = .returned (.string x) ∧ Soft w1.heap.size 40 W w') := Lib.hid (fun W hW => (HTR0.out W (HB1.out.trans ((hW.below (Nat.le_refl _)).mono HB1.out.size))).mono fun e w' ⟨he, hb⟩ => ⟨he, Soft.of_below hb⟩)
    have HB : Hid (Soft w1.heap.size 40 w1 w1.drew) := Lib.hid (Soft.drew _)
    refine regionX (R := Soft w1.heap.size 40) (by kernel_rfl) ?_
    refine takeX (Soft.pre _ _) 0 rfl (by kernel_rfl) (by kernel_rfl) (by kernel_rfl) (by kernel_rfl) (fun _ _ _ _ _ h => h) (fun K hK => ?_)
    go_simp
    first
      | (refine hK _ ?_; clear hK K)
      | (apply Exists.intro
         refine ⟨fun W9 HW9 => ?_, hK _ ?_⟩
         (first | (go_simp; first | done | exact ⟨rfl, rfl⟩ | rfl))
         clear hK K)
    refine takeX (Soft.pre _ _) 1 rfl (by kernel_rfl) (by kernel_rfl) (by kernel_rfl) (by kernel_rfl) (fun _ _ _ _ _ h => h) (fun K hK => ?_)
    go_simp
    first
      | (refine hK _ ?_; clear hK K)
      | (apply Exists.intro
         refine ⟨fun W9 HW9 => ?_, hK _ ?_⟩
         (first | (go_simp; first | done | exact ⟨rfl, rfl⟩ | rfl))
         clear hK K)
    refine takeX (Soft.pre _ _) 2 rfl (by kernel_rfl) (by kernel_rfl) (by kernel_rfl) (by kernel_rfl) (fun _ _ _ _ _ h => h) (fun K hK => ?_)
    go_simp
    first
      | (refine hK _ ?_; clear hK K)
      | (apply Exists.intro
         refine ⟨fun W9 HW9 => ?_, hK _ ?_⟩
         (first | (go_simp; first | done | exact ⟨rfl, rfl⟩ | rfl))
         clear hK K)
    refine takeX (Soft.pre _ _) 3 rfl (by kernel_rfl) (by kernel_rfl) (by kernel_rfl) (by kernel_rfl) (fun _ _ _ _ _ h => h) (fun K hK => ?_)
    go_simp
    first
      | (refine hK _ ?_; clear hK K)
      | (apply Exists.intro
         refine ⟨fun W9 HW9 => ?_, hK _ ?_⟩
         (first | (go_simp; first | done | exact ⟨rfl, rfl⟩ | rfl))
         clear hK K)
    refine takeX (Soft.pre _ _) 4 rfl (by kernel_rfl) (by kernel_rfl) (by kernel_rfl) (by kernel_rfl) (fun _ _ _ _ _ h => h) (fun K hK => ?_)
    go_simp
    first
      | (refine hK _ ?_; clear hK K)
      | (apply Exists.intro
         refine ⟨fun W9 HW9 => ?_, hK _ ?_⟩
         (first | (go_simp; first | done | exact ⟨rfl, rfl⟩ | rfl))
         clear hK K)
    refine takeX (Soft.pre _ _) 5 rfl (by kernel_rfl) (by kernel_rfl) (by kernel_rfl) (by kernel_rfl) (fun _ _ _ _ _ h => h) (fun K hK => ?_)
    go_simp
    first
      | (refine hK _ ?_; clear hK K)
      | (apply Exists.intro
         refine ⟨fun W9 HW9 => ?_, hK _ ?_⟩
         (first | (go_simp; first | done | exact ⟨rfl, rfl⟩ | rfl))
         clear hK K)
    refine takeX (Soft.pre _ _) 6 rfl (by kernel_rfl) (by kernel_rfl) (by kernel_rfl) (by kernel_rfl) (fun _ _ _ _ _ h => h) (fun K hK => ?_)
    go_simp
    first
      | (refine hK _ ?_; clear hK K)
      | (apply Exists.intro
         refine ⟨fun W9 HW9 => ?_, hK _ ?_⟩
         (first | (go_simp; first | done | exact ⟨rfl, rfl⟩ | rfl))
         clear hK K)
    refine takeX (Soft.pre _ _) 7 rfl (by kernel_rfl) (by kernel_rfl) (by kernel_rfl) (by kernel_rfl) (fun _ _ _ _ _ h => h) (fun K hK => ?_)
    go_simp
    first
      | (refine hK _ ?_; clear hK K)
      | (apply Exists.intro
         refine ⟨fun W9 HW9 => ?_, hK _ ?_⟩
         (first | (go_simp; first | done | exact ⟨rfl, rfl⟩ | rfl) | (go_at_call 31; exact HTR.out W9 (HB.out.trans HW9)))
         clear hK K)
    refine twoX (Soft.pre _ _) 8 10 rfl rfl (by kernel_rfl) (fun W9 HW9 K hK => ?_) (fun W9 HW9 K hK => ?_)
    · have HB9 := Lib.hid (HB.out.trans HW9)
      go_simp
      obtain ⟨bl, hbl⟩ : ∃ bl, bl = W9.heap.size := ⟨_, rfl⟩
      obtain ⟨W8, hW8⟩ : ∃ W8, W8 = W9.alloc (.cells #[.string x] 9) := ⟨_, rfl⟩
      have hb8 : Soft w1.heap.size 40 W9 W8 := by rw [hW8]; exact Soft.alloc _ _
      have BS := Lib.hid (show Blk W8 bl _ _ by rw [hW8, hbl]; exact Blk.new W9 _ _)
      have NBS := Lib.hid (show w1.heap.size ≤ bl by rw [hbl]; exact HB9.out.size)
      rw [← hbl, ← hW8]
      have HB' := Lib.hid (HB9.out.trans hb8)
      refine hK _ _ hb8 ?_
      clear hK K HB HB9 hb8 HW9 hbl hW8
      have HB := Lib.hid HB'.out
      clear HB'
      refine takeX (Soft.pre _ _) 9 rfl (by kernel_rfl) (by kernel_rfl) (by kernel_rfl) (by kernel_rfl) (fun _ _ _ _ _ h => h) (fun K hK => ?_)
      go_simp
      first
        | (refine hK _ ?_; clear hK K)
        | (apply Exists.intro
           refine ⟨fun W9 HW9 => ?_, hK _ ?_⟩
           (first | (go_simp; first | done | exact ⟨rfl, rfl⟩ | rfl))
           clear hK K)
      refine soloX (Soft.pre _ _) 10 rfl (by kernel_rfl) (fun W9 HW9 K hK => ?_)
      have HB9 := Lib.hid (HB.out.trans HW9)
      go_simp
      obtain ⟨bf, hbf⟩ : ∃ bf, bf = W9.heap.size := ⟨_, rfl⟩
      obtain ⟨W8, hW8⟩ : ∃ W8, W8 = W9.alloc (.cells #[.string ⟨#[]⟩, .slice none 0 0] 40) := ⟨_, rfl⟩
      have hb8 : Soft w1.heap.size 40 W9 W8 := by rw [hW8]; exact Soft.alloc _ _
      have BF := Lib.hid (show Blk W8 bf _ _ by rw [hW8, hbf]; exact Blk.new W9 _ _)
      have NBF := Lib.hid (show w1.heap.size ≤ bf by rw [hbf]; exact HB9.out.size)
      have BS' := Lib.hid (hb8.other (HW9.other BS.out (by decide)) (by decide))
      rw [← hbf, ← hW8]
      have HB' := Lib.hid (HB9.out.trans hb8)
      refine hK _ _ hb8 ?_
      clear hK K HB HB9 hb8 HW9 hbf hW8
      have HB := Lib.hid HB'.out
      clear HB'
      clear BS
      have BS := Lib.hid BS'.out
      clear BS'
      have hcf : (#[Value.string ⟨#[]⟩, .slice none 0 0] : Array Value).size = 2 := rfl
      refine soloX (Soft.pre _ _) 11 rfl (by kernel_rfl) (fun W9 HW9 K hK => ?_)
      have HB9 := Lib.hid (HB.out.trans HW9)
      obtain ⟨CF9, BF9, hcf9⟩ := HW9.same BF.out
      have BS9 := HW9.other BS.out (by decide)
      have hc2 : CF9.size = 2 := hcf9.trans hcf
      obtain ⟨u0, u1, rfl⟩ : ∃ u0 u1, CF9 = #[u0, u1] := two_of hc2
      have c0 : W9.cell? ⟨bf, 0, none⟩ = some u0 := BF9.cell 0
      have c1 : W9.cell? ⟨bf, 1, none⟩ = some u1 := BF9.cell 1
      have f0 : W9.frozen? ⟨bf, 0, none⟩ = false := BF9.frozen 0
      have f1 : W9.frozen? ⟨bf, 1, none⟩ = false := BF9.frozen 1
      have BZ := (BF9.set_ 0 (.string nm')).set_ 1 (.slice (some ⟨bl, 0, none⟩) 1 1)
      have SZ : Soft w1.heap.size 40 W9 ((W9.setCell ⟨bf, 0, none⟩ (.string nm')).setCell ⟨bf, 1, none⟩ (.slice (some ⟨bl, 0, none⟩) 1 1)) := (Soft.set_ BF9 NBF.out 0 _).trans (Soft.set_ (BF9.set_ 0 _) NBF.out 1 _)
      have BSZ := SZ.other BS9 (by decide)
      go_simp
      refine hK _ _ SZ ?_
      refine doneX (by kernel_rfl) (NoPanic.normal' ?_) _
      clear hK K
      go_wp2_with fail
      go_meet
      exact ⟨bf, bl, rfl, Lib.hid ⟨BZ, BSZ, NBF.out, NBS.out⟩, Lib.hid ((HB9.out.trans SZ).below (Nat.le_refl _))⟩
    · have HB9 := Lib.hid (HB.out.trans HW9)
      go_simp
      obtain ⟨bf, hbf⟩ : ∃ bf, bf = W9.heap.size := ⟨_, rfl⟩
      obtain ⟨W8, hW8⟩ : ∃ W8, W8 = W9.alloc (.cells #[.string ⟨#[]⟩, .slice none 0 0] 40) := ⟨_, rfl⟩
      have hb8 : Soft w1.heap.size 40 W9 W8 := by rw [hW8]; exact Soft.alloc _ _
      have BF := Lib.hid (show Blk W8 bf _ _ by rw [hW8, hbf]; exact Blk.new W9 _ _)
      have NBF := Lib.hid (show w1.heap.size ≤ bf by rw [hbf]; exact HB9.out.size)
      rw [← hbf, ← hW8]
      have HB' := Lib.hid (HB9.out.trans hb8)
      refine hK _ _ hb8 ?_
      clear hK K HB HB9 hb8 HW9 hbf hW8
      have HB := Lib.hid HB'.out
      clear HB'
      have hcf0 : (#[Value.string ⟨#[]⟩, .slice none 0 0] : Array Value).size = 2 := rfl
      refine soloX (Soft.pre _ _) 8 rfl (by kernel_rfl) (fun W9 HW9 K hK => ?_)
      have HB9 := Lib.hid (HB.out.trans HW9)
      go_simp
      obtain ⟨bl, hbl⟩ : ∃ bl, bl = W9.heap.size := ⟨_, rfl⟩
      obtain ⟨W8, hW8⟩ : ∃ W8, W8 = W9.alloc (.cells #[.string x] 9) := ⟨_, rfl⟩
      have hb8 : Soft w1.heap.size 40 W9 W8 := by rw [hW8]; exact Soft.alloc _ _
      have BS := Lib.hid (show Blk W8 bl _ _ by rw [hW8, hbl]; exact Blk.new W9 _ _)
      have NBS := Lib.hid (show w1.heap.size ≤ bl by rw [hbl]; exact HB9.out.size)
      obtain ⟨CF9, q9, q9s⟩ := HW9.same BF.out
      obtain ⟨CF8, q8, q8s⟩ := hb8.same q9
      have BF' := Lib.hid q8
      have hcf : CF8.size = 2 := q8s.trans (q9s.trans hcf0)
      rw [← hbl, ← hW8]
      have HB' := Lib.hid (HB9.out.trans hb8)
      refine hK _ _ hb8 ?_
      clear hK K HB HB9 hb8 HW9 hbl hW8 q9 q9s q8 q8s hcf0
      have HB := Lib.hid HB'.out
      clear HB'
      clear BF
      have BF := Lib.hid BF'.out
      clear BF'
      refine takeX (Soft.pre _ _) 9 rfl (by kernel_rfl) (by kernel_rfl) (by kernel_rfl) (by kernel_rfl) (fun _ _ _ _ _ h => h) (fun K hK => ?_)
      go_simp
      first
        | (refine hK _ ?_; clear hK K)
        | (apply Exists.intro
           refine ⟨fun W9 HW9 => ?_, hK _ ?_⟩
           (first | (go_simp; first | done | exact ⟨rfl, rfl⟩ | rfl))
           clear hK K)
      refine soloX (Soft.pre _ _) 11 rfl (by kernel_rfl) (fun W9 HW9 K hK => ?_)
      have HB9 := Lib.hid (HB.out.trans HW9)
      obtain ⟨CF9, BF9, hcf9⟩ := HW9.same BF.out
      have BS9 := HW9.other BS.out (by decide)
      have hc2 : CF9.size = 2 := hcf9.trans hcf
      obtain ⟨u0, u1, rfl⟩ : ∃ u0 u1, CF9 = #[u0, u1] := two_of hc2
      have c0 : W9.cell? ⟨bf, 0, none⟩ = some u0 := BF9.cell 0
      have c1 : W9.cell? ⟨bf, 1, none⟩ = some u1 := BF9.cell 1
      have f0 : W9.frozen? ⟨bf, 0, none⟩ = false := BF9.frozen 0
      have f1 : W9.frozen? ⟨bf, 1, none⟩ = false := BF9.frozen 1
      have BZ := (BF9.set_ 0 (.string nm')).set_ 1 (.slice (some ⟨bl, 0, none⟩) 1 1)
      have SZ : Soft w1.heap.size 40 W9 ((W9.setCell ⟨bf, 0, none⟩ (.string nm')).setCell ⟨bf, 1, none⟩ (.slice (some ⟨bl, 0, none⟩) 1 1)) := (Soft.set_ BF9 NBF.out 0 _).trans (Soft.set_ (BF9.set_ 0 _) NBF.out 1 _)
      have BSZ := SZ.other BS9 (by decide)
      go_simp
      refine hK _ _ SZ ?_
      refine doneX (by kernel_rfl) (NoPanic.normal' ?_) _
      clear hK K
      go_wp2_with fail
      go_meet
      exact ⟨bf, bl, rfl, Lib.hid ⟨BZ, BSZ, NBF.out, NBS.out⟩, Lib.hid ((HB9.out.trans SZ).below (Nat.le_refl _))⟩
  case rest =>
    obtain ⟨bf, bl, rfl, HBF, HBW⟩ := hcut
    obtain ⟨w3, hw3⟩ : ∃ w3, w3 = wc := ⟨_, rfl⟩
    rw [← hw3] at HBF HBW ⊢
    have HB3 := Lib.hid (HB1.out.trans (HBW.out.mono HB1.out.size))
    obtain ⟨i0, hi0, hz0, hz1, hz2⟩ := info_parts fd_row
    obtain ⟨j0, hj0, hy0, hy1, hy2⟩ := info_parts st_row
    obtain ⟨G, A, c, xs, hr, ho, hG⟩ := HH.out
    have hu3 : Upd (fun _ => False) w w3 := Upd.of_below HB3.out (T := fun _ => False) (fun k h1 h2 => by omega)
    have HO3 := Lib.hid (ho.upd hu3 (fun _ _ h => h) (fun _ _ h => h))
    have HR3 := Lib.hid (hr.upd hu3 (fun h => h))
    have HGQ := Lib.hid hG
    have HGW : Hid (∀ k, G k → k < w.heap.size) := Lib.hid (fun k hk => (ho.g k hk).1)
    have HNB : Hid (w.heap.size ≤ bf ∧ w.heap.size ≤ bl) := Lib.hid ⟨Nat.le_trans HBZ.out HBF.out.2.2.1, Nat.le_trans HBZ.out HBF.out.2.2.2⟩
    have HBF3 := Lib.hid HBF.out.1
    have HBL3 := Lib.hid HBF.out.2.1
    obtain ⟨m, hm⟩ : ∃ m, m = L.length := ⟨_, rfl⟩
    have HM := Lib.hid hm
    have k0 : w3.cell? ⟨q, 0, none⟩ = some (.slice A m c) := by rw [hm]; exact HR3.out.cell 0
    have k1 : w3.cell? ⟨q, 1, none⟩ = some (.bool false) := HR3.out.cell 1
    rw [← hm] at hL HRES
    have HOW3 : Hid (w3.ownsRow base 34 2 (.slice A m c) m xs) := Lib.hid (by rw [hm]; exact HO3.out.o)
    have hz3 : base ≤ w3.heap.size := Nat.le_trans hbw HB3.out.size
    clear HN HTR0 HB1 HH hr ho hG hu3 hm HBW e1 e2 p1 p2 p3 p4 p5 hex hw3 HBF
    by_cases h200 : m = 200
    · have q200 : ((m : Int) == 200) = true := by rw [beq_iff_eq]; omega
      have HE : Hid (res = .error 12) := Lib.hid (by rw [HRES.out, if_pos h200])
      clear HRES
      subst h200
      go_wp2_with fail
      go_ret
      rw [HE.out]
      exact ⟨rfl, HB3.out.mono hbw⟩
    have q200 : ((m : Int) == 200) = false := by rw [beq_eq_false_iff_ne]; omega
    have HE : Hid (res = .ok (.opn L ln [] nm' [x])) := Lib.hid (by rw [HRES.out, if_neg h200])
    have hqne : ∀ k, (Value.slice A m c).ownBlock = some k → q ≠ k := fun k hk e => by
      obtain ⟨_, cur, hc⟩ := own_is HOW3.out hk
      have h9 := HR3.out
      unfold Blk at h9
      rw [e, hc] at h9
      injection h9 with h9
      injection h9 with _ h9
      exact absurd h9 (by decide)
    have HQNE := Lib.hid hqne
    clear HRES h200 hqne
    go_upto_region 9 with (at_builtin; refine wpList_append_any _ rfl (.tmp 45) (.tmp 48) 23 rfl base 34 j0 (.agg #[.int .i64 0, .slice none 0 0]) 2 32 Tryd.underlying23 hj0 hy0 hy1 hy2 rfl (by decide) (.slice A m c) m xs rfl (HOW3.out.alloc _) (w3.heap.size + 1) (some ⟨w3.heap.size, 0, none⟩) 1 1 [.int .i64 ln, .slice none 0 0] rfl (reads_two (Blk.new w3 _ _) (by simp)) (fun u hu => by simp at hu; rcases hu with rfl | rfl <;> rfl) (by unfold maxLen; omega) (by omega) (Nat.le_trans hz3 (by simp)) ?_; intro v4 w4 hown4 hg4 hat4; obtain ⟨ko', c4, rfl, hkl4, hlt4⟩ := hown4.form (by omega); have hu4 : Upd (fun k => (Value.slice A m c).ownBlock = some k) w3 w4 := ((Upd.refl _ w3).alloc _).grown hg4 (fun j hj => .inl hj); have HU4 := Lib.hid hu4; have HK4 : Hid (A = some ⟨ko', 0, none⟩ ∨ w3.heap.size ≤ ko') := Lib.hid (own_at2 HOW3.out hat4); have HW4 := Lib.hid hown4; have HR4 : Hid (Blk w4 q 56 #[.slice A m c, .bool false]) := Lib.hid (by rw [HM.out]; exact HR3.out.upd hu4 (fun h => HQNE.out q h rfl)); have k4 : w4.cell? ⟨q, 0, none⟩ = some (.slice A m c) := HR4.out.cell 0; have f4 : w4.frozen? ⟨q, 0, none⟩ = false := HR4.out.frozen 0; clear hown4 hg4 hat4 hu4 hkl4 hlt4)
    obtain ⟨w5, hw5⟩ : ∃ w5, w5 = w4.setCell ⟨q, 0, none⟩ (.slice (some ⟨ko', 0, none⟩) (m + 1) c4) := ⟨_, rfl⟩
    have HR5 : Hid (Blk w5 q 56 #[.slice (some ⟨ko', 0, none⟩) (m + 1) c4, .bool false]) := Lib.hid (by
      rw [hw5]
      have := Blk.set_ HR4.out 0 (.slice (some ⟨ko', 0, none⟩) (m + 1) c4)
      simpa using this)
    have hu5 : Upd (fun k => k = q) w4 w5 := by rw [hw5]; exact (Upd.refl (fun k => k = q) _).setCell (p := ⟨q, 0, none⟩) (.inl rfl) _
    have HU5 := Lib.hid hu5
    have k5 : w5.cell? ⟨q, 1, none⟩ = some (.bool false) := HR5.out.cell 1
    have f5 : w5.frozen? ⟨q, 1, none⟩ = false := HR5.out.frozen 1
    rw [← hw5]
    clear hw5 hu5 k4 f4 k0 k1
    go_upto_region 10 with fail
    obtain ⟨w6, hw6⟩ : ∃ w6, w6 = w5.setCell ⟨q, 1, none⟩ (.bool true) := ⟨_, rfl⟩
    have HR6 : Hid (Blk w6 q 56 #[.slice (some ⟨ko', 0, none⟩) (m + 1) c4, .bool true]) := Lib.hid (by
      rw [hw6]
      have := Blk.set_ HR5.out 1 (.bool true)
      simpa using this)
    have hu6 : Upd (fun k => k = q) w5 w6 := by rw [hw6]; exact (Upd.refl (fun k => k = q) _).setCell (p := ⟨q, 1, none⟩) (.inl rfl) _
    have HU46 := Lib.hid (HU5.out.trans hu6)
    have hqk : ko' ≠ q := own_ne_blk HW4.out HR4.out (by decide)
    have HS6 := Lib.hid (own_upd HW4.out HU46.out (fun k e h => by injection e with e; subst e; exact hqk h))
    have HU36 : Hid (Upd (fun k => (Value.slice A m c).ownBlock = some k ∨ k = q) w3 w6) := Lib.hid ((HU4.out.mono (fun k _ h => Or.inl h)).trans (HU46.out.mono (fun k _ h => Or.inr h)))
    have HBF6 := Lib.hid (HBF3.out.upd HU36.out (fun h => by rcases h with h | h; exact own_blk_ne HOW3.out HBF3.out (by decide) h; exact Blk.ne_ HBF3.out HR3.out (by decide) h))
    have HBL6 := Lib.hid (HBL3.out.upd HU36.out (fun h => by rcases h with h | h; exact own_blk_ne HOW3.out HBL3.out (by decide) h; exact Blk.ne_ HBL3.out HR3.out (by decide) h))
    have hx := HO3.out.sv.len
    rw [← HM.out] at hx
    have ks6 : w6.cell? ⟨ko', m * 2 + 1, none⟩ = some (.slice none 0 0) := by
      rw [HS6.out.cellAt (m * 2 + 1) (by omega), ← hx]
      simp
    have k0 : w6.cell? ⟨q, 0, none⟩ = some (.slice (some ⟨ko', 0, none⟩) (m + 1) c4) := HR6.out.cell 0
    have b1 : (m : Int) < (m : Int) + 1 := by omega
    rw [← hw6]
    clear hw6 hu6 k5 f5 hx HR4 HR5 HU5 HW4 HU4 HU46 HBF3 HBL3
    go_wp2_with fail
    go_quiet (fail)
    obtain ⟨w7, hw7⟩ : ∃ w7, w7 = w6.drewN nq := ⟨_, rfl⟩
    rw [← hw7]
    have hd7 : Upd (fun _ => False) w6 w7 := by rw [hw7]; exact (Upd.refl _ _).drewN nq
    have HS7 := Lib.hid (own_upd HS6.out hd7 (fun _ _ h => h))
    have HR7 := Lib.hid (HR6.out.upd hd7 (fun h => h))
    have HBF7 := Lib.hid (HBF6.out.upd hd7 (fun h => h))
    have HBL7 := Lib.hid (HBL6.out.upd hd7 (fun h => h))
    have HU37 : Hid (Upd (fun k => (Value.slice A m c).ownBlock = some k ∨ k = q) w3 w7) := Lib.hid (HU36.out.trans (hd7.mono (fun k _ h => h.elim)))
    have ks4 : w7.cell? ⟨ko', m * 2 + 1, none⟩ = some (.slice none 0 0) := by rw [hw7]; exact ks6
    clear hw7 hd7 HS6 HR6 HBF6 HBL6 HU36 ks6 k0 q200
    have HHS : Hid (∀ W, Lat w7 W → Calls Tryd.prog 51 #[.slice none 0 0, .string nm'] W fun e w' => e = .returned (.bool false) ∧ Lat W w') := Lib.hid (fun W hW =>
      has_any (fun _ => False) none 0 0 [] [] nm' W ⟨rfl, fun h => absurd h (by omega)⟩ rfl rfl (by omega) (fun f hf => by cases hf) hnms)
    have HKS : Hid (∀ W, Lat w7 W → W.cell? ⟨ko', m * 2 + 1, none⟩ = some (.slice none 0 0) ∧ W.cell? ⟨bf, 0, none⟩ = some (.string nm')) := Lib.hid (fun W hW => by
      have hW : Below w7.heap.size w7 W := hW
      exact ⟨(hW.cell (p := ⟨ko', m * 2 + 1, none⟩) (World.block_lt_of_cell? w7 _ ks4)).trans ks4, (HBF7.out.below hW HBF7.out.lt).cell 0⟩)
    go_upto_region 13 with fail
    have HB : Hid (Lat w7 w7.drew) := Lib.hid ⟨rfl, rfl, rfl, Nat.le_refl _, fun _ _ => rfl⟩
    refine regionX (R := Lat) (by kernel_rfl) ?_
    refine takeX (⟨Lat.refl, fun _ _ _ => Lat.trans⟩) 0 rfl (by kernel_rfl) (by kernel_rfl) (by kernel_rfl) (by kernel_rfl) (fun _ _ _ _ _ h => h) (fun K hK => ?_)
    go_simp
    first
      | (refine hK _ ?_; clear hK K)
      | (apply Exists.intro
         refine ⟨fun W9 HW9 => ?_, hK _ ?_⟩
         (first | (go_simp; first | done | exact ⟨rfl, rfl⟩ | rfl))
         clear hK K)
    refine takeX (⟨Lat.refl, fun _ _ _ => Lat.trans⟩) 1 rfl (by kernel_rfl) (by kernel_rfl) (by kernel_rfl) (by kernel_rfl) (fun _ _ _ _ _ h => h) (fun K hK => ?_)
    go_simp
    first
      | (refine hK _ ?_; clear hK K)
      | (apply Exists.intro
         refine ⟨fun W9 HW9 => ?_, hK _ ?_⟩
         (first | (go_simp; first | done | exact ⟨rfl, rfl⟩ | rfl))
         clear hK K)
    refine takeX (⟨Lat.refl, fun _ _ _ => Lat.trans⟩) 2 rfl (by kernel_rfl) (by kernel_rfl) (by kernel_rfl) (by kernel_rfl) (fun _ _ _ _ _ h => h) (fun K hK => ?_)
    go_simp
    first
      | (refine hK _ ?_; clear hK K)
      | (apply Exists.intro
         refine ⟨fun W9 HW9 => ?_, hK _ ?_⟩
         (first | (go_simp; first | done | exact ⟨rfl, rfl⟩ | rfl))
         clear hK K)
    refine takeX (⟨Lat.refl, fun _ _ _ => Lat.trans⟩) 3 rfl (by kernel_rfl) (by kernel_rfl) (by kernel_rfl) (by kernel_rfl) (fun _ _ _ _ _ h => h) (fun K hK => ?_)
    go_simp
    first
      | (refine hK _ ?_; clear hK K)
      | (apply Exists.intro
         refine ⟨fun W9 HW9 => ?_, hK _ ?_⟩
         (first | (go_simp; first | done | exact ⟨rfl, rfl⟩ | rfl) | (obtain ⟨c1, c2⟩ := HKS.out W9 (HB.out.trans HW9); go_simp; first | done | exact ⟨rfl, rfl⟩ | rfl))
         clear hK K)
    refine takeX (⟨Lat.refl, fun _ _ _ => Lat.trans⟩) 4 rfl (by kernel_rfl) (by kernel_rfl) (by kernel_rfl) (by kernel_rfl) (fun _ _ _ _ _ h => h) (fun K hK => ?_)
    go_simp
    first
      | (refine hK _ ?_; clear hK K)
      | (apply Exists.intro
         refine ⟨fun W9 HW9 => ?_, hK _ ?_⟩
         (first | (go_simp; first | done | exact ⟨rfl, rfl⟩ | rfl))
         clear hK K)
    refine takeX (⟨Lat.refl, fun _ _ _ => Lat.trans⟩) 5 rfl (by kernel_rfl) (by kernel_rfl) (by kernel_rfl) (by kernel_rfl) (fun _ _ _ _ _ h => h) (fun K hK => ?_)
    go_simp
    first
      | (refine hK _ ?_; clear hK K)
      | (apply Exists.intro
         refine ⟨fun W9 HW9 => ?_, hK _ ?_⟩
         (first | (go_simp; first | done | exact ⟨rfl, rfl⟩ | rfl) | (obtain ⟨c1, c2⟩ := HKS.out W9 (HB.out.trans HW9); go_simp; first | done | exact ⟨rfl, rfl⟩ | rfl))
         clear hK K)
    refine takeX (⟨Lat.refl, fun _ _ _ => Lat.trans⟩) 6 rfl (by kernel_rfl) (by kernel_rfl) (by kernel_rfl) (by kernel_rfl) (fun _ _ _ _ _ h => h) (fun K hK => ?_)
    go_simp
    first
      | (refine hK _ ?_; clear hK K)
      | (apply Exists.intro
         refine ⟨fun W9 HW9 => ?_, hK _ ?_⟩
         (first | (go_simp; first | done | exact ⟨rfl, rfl⟩ | rfl) | (go_at_call 51; exact HHS.out W9 (HB.out.trans HW9)))
         clear hK K)
    refine soloX ⟨Lat.refl, fun _ _ _ => Lat.trans⟩ 7 rfl (by kernel_rfl) (fun W9 HW9 K hK => ?_)
    have HB9 := Lib.hid (HB.out.trans HW9)
    go_simp
    refine hK _ _ (Lat.refl _) ?_
    refine doneX (by kernel_rfl) (NoPanic.normal' ?_) _
    clear hK K
    have hu8 : Upd (fun _ => False) w7 W9 := Upd.of_below (show Below w7.heap.size w7 W9 from HB9.out) (T := fun _ => False) (fun k h1 h2 => by omega)
    obtain ⟨w8, hw8⟩ : ∃ w8, w8 = W9 := ⟨_, rfl⟩
    rw [← hw8] at hu8 HB9 ⊢
    have HS8 := Lib.hid (own_upd HS7.out hu8 (fun _ _ h => h))
    have HR8 := Lib.hid (HR7.out.upd hu8 (fun h => h))
    have HBF8 := Lib.hid (HBF7.out.upd hu8 (fun h => h))
    have HBL8 := Lib.hid (HBL7.out.upd hu8 (fun h => h))
    have HU38 : Hid (Upd (fun k => (Value.slice A m c).ownBlock = some k ∨ k = q) w3 w8) := Lib.hid (HU37.out.trans (hu8.mono (fun k _ h => h.elim)))
    have ks8 : w8.cell? ⟨ko', m * 2 + 1, none⟩ = some (.slice none 0 0) := (HKS.out w8 HB9.out).1
    clear HW9 HB HB9 hu8 HHS HKS HS7 HR7 HBF7 HBL7 HU37 ks4 hw8
    have kb0 : w8.cell? ⟨bf, 0, none⟩ = some (.string nm') := HBF8.out.cell 0
    have kb1 : w8.cell? ⟨bf, 1, none⟩ = some (.slice (some ⟨bl, 0, none⟩) 1 1) := HBF8.out.cell 1
    have hz8 : w3.heap.size ≤ w8.heap.size := HU38.out.size
    have fo8 : w8.frozen? ⟨ko', m * 2 + 1, none⟩ = false := HS8.out.frozenAt _
    have hko8 : ko' < w8.heap.size := World.block_lt_of_cell? w8 _ ks8
    have HNIL : Hid (w8.ownsRow base 40 2 (.slice none 0 0) 0 []) := Lib.hid (World.ownsRow_nil _ _ _ _)
    go_upto_region 15 with fail
    go_region_law ((refine step_append_any _ (by rfl) (.tmp 85) (.tmp 87) 32 (by rfl) base 40 i0 (.agg #[.string ⟨#[]⟩, .slice none 0 0]) 2 40 Tryd.underlying32 hi0 hz0 hz1 hz2 rfl (by decide) (.slice none 0 0) 0 [] (by simp [Act.eval]) ((HNIL.out.alloc _).drew) (w8.heap.size + 1) (some ⟨w8.heap.size, 0, none⟩) 1 1 [.string nm', .slice (some ⟨bl, 0, none⟩) 1 1] (by simp [Act.eval]) (reads_two (Blk.drew (Blk.new w8 _ _)) (by simp)) (fun u hu => by simp at hu; rcases hu with rfl | rfl <;> rfl) (by unfold maxLen; omega) (by omega) (Nat.le_trans hz3 (Nat.le_trans hz8 (by simp))) ?_; intro v5 w9 hown5 hg5 hat5; obtain ⟨kf', c5, rfl, hkl5, hlt5⟩ := hown5.form (by omega); have hu9 : Upd (fun _ => False) w8 w9 := ((Upd.refl _ w8).alloc _).drew.grown hg5 (fun j hj => by cases hj); have HU9 := Lib.hid hu9; have HK5 : Hid (w8.heap.size ≤ kf') := Lib.hid (own_at3 (w2 := w8) hat5); have HW5 := Lib.hid hown5; have k9 : w9.cell? ⟨ko', m * 2 + 1, none⟩ = some (.slice none 0 0) := (hu9.cell (p := ⟨ko', m * 2 + 1, none⟩) hko8 (fun h => h)).trans ks8; have f9 : w9.frozen? ⟨ko', m * 2 + 1, none⟩ = false := (hu9.frozen (p := ⟨ko', m * 2 + 1, none⟩) hko8 (fun h => h)).trans fo8; clear hown5 hg5 hat5 hu9 hkl5 hlt5))
    all_goals
      go_wp2_with fail
      go_ret
      have hbl : w8.ownsRow base 9 1 (.slice (some ⟨bl, 0, none⟩) 1 1) 1 [.string x] := own_of_blk HBL8.out (Nat.le_trans hbw HNB.out.2)
      have hfin := HO3.out.field (w4 := w8) (w5 := w9) (ko' := ko') (c4 := c4) (kf' := kf') (c5 := c5) (kl' := bl) (cl' := 1) (nm' := nm') (x := x) (ln := ln) HU38.out (fun k hk h => by
          rcases h with h | h
          · refine (HO3.out.g k hk).2 ?_
            rcases HOW3.out.2 with ⟨e, _⟩ | ⟨g, cap, cur, e, _⟩
            · rw [e] at h; cases h
            · rw [e] at h
              have h : some g = some k := h
              injection h with h
              injection e with e _ _
              rw [e, h]
          · exact (HGQ.out k hk).2 h) (by
          rcases HK4.out with h | h
          · exact .inl h
          · exact .inr h) (by rw [← HM.out]; exact HS8.out) HU9.out (fun k hk e => by have h1 := HGW.out k hk; have h2 := HK5.out; have h3 := HB3.out.size; omega) (fun k hk e => by have h1 := HGW.out k hk; have h2 := HNB.out.2; omega) HW5.out (own_upd hbl HU9.out (fun _ _ h => h))
      rw [← HM.out] at hfin
      rw [HE.out]
      have hqf : ko' ≠ q := own_ne_blk HS8.out HR8.out (by decide)
      refine ⟨rfl, ⟨G, ko', c4, kf', c5, bl, 1, xs, [], ?_, hfin.1, HGQ.out⟩, ?_⟩
      · rw [← HM.out]
        exact (HR8.out.upd HU9.out (fun h => h)).upd ((Upd.refl (fun k => k = ko') _).setCell (p := ⟨ko', m * 2 + 1, none⟩) (.inl rfl) _) (fun h => hqf h.symm)
      · refine (HB3.out.mono hbw).trans (hfin.2.below (fun k hk => ?_) hz3)
        rcases hk with (hk | hk) | hk
        · exact (own_is HOW3.out hk).1
        · rw [hk]; exact hbq
        · rw [hk]; exact (own_is HS8.out rfl).1
end Go.Proofs.YtjkaigfpjebfbaaDoor
