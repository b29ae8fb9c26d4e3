/- stanza's reader: field. -/
import Derived.Test.YtjkaigfpjebfbaaDoorB7
namespace Go.Proofs.YtjkaigfpjebfbaaDoor
open Go.RowKit
set_option linter.unusedVariables false

/-- What field leaves. -/
def FldRes (w w' : World) (base q : Nat) (e : Ending) : Except Int PS → Prop
  | .error k => e = .returned (.int .i64 k) ∧ Below base w w'
  | .ok σ => e = .returned (.int .i64 0) ∧ RdS w' base q σ ∧ Below base w w'
theorem own_of_blk {w : World} {base g : Nat} {t : TypeId} {x : Value} (h : Blk w g t #[x]) (hb : base ≤ g) : w.ownsRow base t 1 (.slice (some ⟨g, 0, none⟩) 1 1) 1 [x] :=
  ⟨rfl, .inr ⟨g, 1, #[x], rfl, hb, h, Nat.le_refl _, by unfold maxLen; omega, rfl, rfl⟩⟩
theorem two_of {C : Array Value} (h : C.size = 2) : ∃ u0 u1, C = #[u0, u1] := by
  obtain ⟨l⟩ := C
  match l, h with
  | [a, b], _ => exact ⟨a, b, rfl⟩
set_option maxRecDepth 100000 in
set_option maxHeartbeats 8000000 in
theorem field_opn (q base : Nat) (Lp : List St) (l0 : Int) (Fp : List Fd) (nm : ByteArray) (ls : List ByteArray) (s : ByteArray) (ln : Int) (w : World) (h : RdS w base q (.opn Lp l0 Fp nm ls)) (hn : ¬ (nameN s = 0 ∨ nameN s = s.size)) (hs : s.size ≤ 1048576) (hbq : base ≤ q) (hbw : base ≤ w.heap.size)
    (hT : Lib.Utf8Tabs 0 1 w)
    (hLp : Lp.length ≤ 1048576) (hFp : Fp.length ≤ 1000000) (hFn : ∀ f ∈ Fp, f.n.size ≤ 1048576) (hnm : nm.size ≤ 1048576) :
    Calls Tryd.prog 42 #[.pointer (some ⟨q, 0, none⟩), .string s, .int .i64 ln] w fun e w' => FldRes w w' base q e (fieldS s ln (.opn Lp l0 Fp nm ls)) := by
  obtain ⟨res, hres⟩ : ∃ res, res = fieldS s ln (.opn Lp l0 Fp nm ls) := ⟨_, rfl⟩
  have hres2 : res = if Fp.length + 1 = 40 then .error 12 else if hasN (Fp ++ [⟨nm, ls⟩]) (s.extract 0 (nameN s)) then .error 4 else .ok (.opn Lp l0 (Fp ++ [⟨nm, ls⟩]) (s.extract 0 (nameN s)) [trimB (s.extract (nameN s + 1) s.size)]) := by
    rw [hres]; unfold fieldS; rw [if_neg hn]
  rw [← hres]
  have HN := Lib.hid (fun W => name_any s W (by omega))
  have hle := nameN_le s
  obtain ⟨n, hnn⟩ : ∃ n, n = nameN s := ⟨_, rfl⟩
  rw [← hnn] at HN hn hle
  have e1 : ((n : Int) == 0) = false := by rw [beq_eq_false_iff_ne]; omega
  have e2 : ((n : Int) == (s.size : Int)) = false := by rw [beq_eq_false_iff_ne]; omega
  have p1 : (n : Int) + 1 ≤ (s.size : Int) := by omega
  have p2 : (n : Int) ≤ (s.size : Int) := by omega
  have p3 : (0 : Int) ≤ (n : Int) + 1 := by omega
  have p4 : IntKind.i64.wrap ((n : Int) + 1) = (n : Int) + 1 := IntWalk.i64_in _ (by omega)
  have p5 : ((n : Int) + 1).toNat = n + 1 := by omega
  obtain ⟨x, hx⟩ : ∃ x, x = trimB (s.extract (n + 1) s.size) := ⟨_, rfl⟩
  have HTR0 : Hid (∀ W, Below w.heap.size w W → Calls Tryd.prog 31 #[.string (s.extract (n + 1) s.size)] W fun e w' => e = .returned (.string x) ∧ Lat W w') := Lib.hid (fun W hW => by
    rw [hx]
    exact Trim_any _ W (by rw [ByteArray.size_extract]; omega) (tabs_later hT hW))
  obtain ⟨nm', hnm'⟩ : ∃ nm', nm' = s.extract 0 n := ⟨_, rfl⟩
  have hex : s.extract 0 n = nm' := hnm'.symm
  rw [← hnn, ← hx, ← hnm'] at hres2
  have HRES := Lib.hid hres2
  have hnms : nm'.size ≤ 1048576 := by rw [hnm', ByteArray.size_extract]; omega
  have HXX := Lib.hid hx
  have HNM := Lib.hid hnm'
  have HNN := Lib.hid hnn
  have HH := Lib.hid h
  have HT := Lib.hid hT
  clear hx hnm' hnn h hT hn hle hres hres2
  go_enter Tryd.func42, Tryd.ntmps42
  go_upto_region 4 with (go_at_call 49; refine (HN.out _).mono ?_; rintro e w1 ⟨rfl, hb1⟩; have HB1 := Lib.hid hb1; clear hb1)
  have HBZ := Lib.hid HB1.out.size
  go_cut [8] (fun v wx => ∃ bf bl, v = .pointer (some ⟨bf, 0, none⟩) ∧ Hid (Blk wx bf 40 #[.string nm', .slice (some ⟨bl, 0, none⟩) 1 1] ∧ Blk wx bl 9 #[.string x] ∧ w1.heap.size ≤ bf ∧ w1.heap.size ≤ bl) ∧ Hid (Below w1.heap.size w1 wx))
  case first =>
    have HTR : Hid (∀ W, Soft w1.heap.size 40 w1 W → Calls Tryd.prog 31 #[.string (s.extract (n + 1) s.size)] W fun e w' => e = .returned (.string x) ∧ Soft w1.heap.size 40 W w') := Lib.hid (fun W hW => (HTR0.out W (HB1.out.trans ((hW.below (Nat.le_refl _)).mono HB1.out.size))).mono fun e w' ⟨he, hb⟩ => ⟨he, Soft.of_below hb⟩)
    have HB : Hid (Soft w1.heap.size 40 w1 w1.drew) := Lib.hid (Soft.drew _)
    refine regionX (R := Soft w1.heap.size 40) (by kernel_rfl) ?_
    refine takeX (Soft.pre _ _) 0 rfl (by kernel_rfl) (by kernel_rfl) (by kernel_rfl) (by kernel_rfl) (fun _ _ _ _ _ h => h) (fun K hK => ?_)
    go_simp
    first
      | (refine hK _ ?_; clear hK K)
      | (apply Exists.intro
         refine ⟨fun W9 HW9 => ?_, hK _ ?_⟩
         (first | (go_simp; first | done | exact ⟨rfl, rfl⟩ | rfl))
         clear hK K)
    refine takeX (Soft.pre _ _) 1 rfl (by kernel_rfl) (by kernel_rfl) (by kernel_rfl) (by kernel_rfl) (fun _ _ _ _ _ h => h) (fun K hK => ?_)
    go_simp
    first
      | (refine hK _ ?_; clear hK K)
      | (apply Exists.intro
         refine ⟨fun W9 HW9 => ?_, hK _ ?_⟩
         (first | (go_simp; first | done | exact ⟨rfl, rfl⟩ | rfl))
         clear hK K)
    refine takeX (Soft.pre _ _) 2 rfl (by kernel_rfl) (by kernel_rfl) (by kernel_rfl) (by kernel_rfl) (fun _ _ _ _ _ h => h) (fun K hK => ?_)
    go_simp
    first
      | (refine hK _ ?_; clear hK K)
      | (apply Exists.intro
         refine ⟨fun W9 HW9 => ?_, hK _ ?_⟩
         (first | (go_simp; first | done | exact ⟨rfl, rfl⟩ | rfl))
         clear hK K)
    refine takeX (Soft.pre _ _) 3 rfl (by kernel_rfl) (by kernel_rfl) (by kernel_rfl) (by kernel_rfl) (fun _ _ _ _ _ h => h) (fun K hK => ?_)
    go_simp
    first
      | (refine hK _ ?_; clear hK K)
      | (apply Exists.intro
         refine ⟨fun W9 HW9 => ?_, hK _ ?_⟩
         (first | (go_simp; first | done | exact ⟨rfl, rfl⟩ | rfl))
         clear hK K)
    refine takeX (Soft.pre _ _) 4 rfl (by kernel_rfl) (by kernel_rfl) (by kernel_rfl) (by kernel_rfl) (fun _ _ _ _ _ h => h) (fun K hK => ?_)
    go_simp
    first
      | (refine hK _ ?_; clear hK K)
      | (apply Exists.intro
         refine ⟨fun W9 HW9 => ?_, hK _ ?_⟩
         (first | (go_simp; first | done | exact ⟨rfl, rfl⟩ | rfl))
         clear hK K)
    refine takeX (Soft.pre _ _) 5 rfl (by kernel_rfl) (by kernel_rfl) (by kernel_rfl) (by kernel_rfl) (fun _ _ _ _ _ h => h) (fun K hK => ?_)
    go_simp
    first
      | (refine hK _ ?_; clear hK K)
      | (apply Exists.intro
         refine ⟨fun W9 HW9 => ?_, hK _ ?_⟩
         (first | (go_simp; first | done | exact ⟨rfl, rfl⟩ | rfl))
         clear hK K)
    refine takeX (Soft.pre _ _) 6 rfl (by kernel_rfl) (by kernel_rfl) (by kernel_rfl) (by kernel_rfl) (fun _ _ _ _ _ h => h) (fun K hK => ?_)
    go_simp
    first
      | (refine hK _ ?_; clear hK K)
      | (apply Exists.intro
         refine ⟨fun W9 HW9 => ?_, hK _ ?_⟩
         (first | (go_simp; first | done | exact ⟨rfl, rfl⟩ | rfl))
         clear hK K)
    refine takeX (Soft.pre _ _) 7 rfl (by kernel_rfl) (by kernel_rfl) (by kernel_rfl) (by kernel_rfl) (fun _ _ _ _ _ h => h) (fun K hK => ?_)
    go_simp
    first
      | (refine hK _ ?_; clear hK K)
      | (apply Exists.intro
         refine ⟨fun W9 HW9 => ?_, hK _ ?_⟩
         (first | (go_simp; first | done | exact ⟨rfl, rfl⟩ | rfl) | (go_at_call 31; exact HTR.out W9 (HB.out.trans HW9)))
         clear hK K)
    refine twoX (Soft.pre _ _) 8 10 rfl rfl (by kernel_rfl) (fun W9 HW9 K hK => ?_) (fun W9 HW9 K hK => ?_)
    · have HB9 := Lib.hid (HB.out.trans HW9)
      go_simp
      obtain ⟨bl, hbl⟩ : ∃ bl, bl = W9.heap.size := ⟨_, rfl⟩
      obtain ⟨W8, hW8⟩ : ∃ W8, W8 = W9.alloc (.cells #[.string x] 9) := ⟨_, rfl⟩
      have hb8 : Soft w1.heap.size 40 W9 W8 := by rw [hW8]; exact Soft.alloc _ _
      have BS := Lib.hid (show Blk W8 bl _ _ by rw [hW8, hbl]; exact Blk.new W9 _ _)
      have NBS := Lib.hid (show w1.heap.size ≤ bl by rw [hbl]; exact HB9.out.size)
      rw [← hbl, ← hW8]
      have HB' := Lib.hid (HB9.out.trans hb8)
      refine hK _ _ hb8 ?_
      clear hK K HB HB9 hb8 HW9 hbl hW8
      have HB := Lib.hid HB'.out
      clear HB'
      refine takeX (Soft.pre _ _) 9 rfl (by kernel_rfl) (by kernel_rfl) (by kernel_rfl) (by kernel_rfl) (fun _ _ _ _ _ h => h) (fun K hK => ?_)
      go_simp
      first
        | (refine hK _ ?_; clear hK K)
        | (apply Exists.intro
           refine ⟨fun W9 HW9 => ?_, hK _ ?_⟩
           (first | (go_simp; first | done | exact ⟨rfl, rfl⟩ | rfl))
           clear hK K)
      refine soloX (Soft.pre _ _) 10 rfl (by kernel_rfl) (fun W9 HW9 K hK => ?_)
      have HB9 := Lib.hid (HB.out.trans HW9)
      go_simp
      obtain ⟨bf, hbf⟩ : ∃ bf, bf = W9.heap.size := ⟨_, rfl⟩
      obtain ⟨W8, hW8⟩ : ∃ W8, W8 = W9.alloc (.cells #[.string ⟨#[]⟩, .slice none 0 0] 40) := ⟨_, rfl⟩
      have hb8 : Soft w1.heap.size 40 W9 W8 := by rw [hW8]; exact Soft.alloc _ _
      have BF := Lib.hid (show Blk W8 bf _ _ by rw [hW8, hbf]; exact Blk.new W9 _ _)
      have NBF := Lib.hid (show w1.heap.size ≤ bf by rw [hbf]; exact HB9.out.size)
      have BS' := Lib.hid (hb8.other (HW9.other BS.out (by decide)) (by decide))
      rw [← hbf, ← hW8]
      have HB' := Lib.hid (HB9.out.trans hb8)
      refine hK _ _ hb8 ?_
      clear hK K HB HB9 hb8 HW9 hbf hW8
      have HB := Lib.hid HB'.out
      clear HB'
      clear BS
      have BS := Lib.hid BS'.out
      clear BS'
      have hcf : (#[Value.string ⟨#[]⟩, .slice none 0 0] : Array Value).size = 2 := rfl
      refine soloX (Soft.pre _ _) 11 rfl (by kernel_rfl) (fun W9 HW9 K hK => ?_)
      have HB9 := Lib.hid (HB.out.trans HW9)
      obtain ⟨CF9, BF9, hcf9⟩ := HW9.same BF.out
      have BS9 := HW9.other BS.out (by decide)
      have hc2 : CF9.size = 2 := hcf9.trans hcf
      obtain ⟨u0, u1, rfl⟩ : ∃ u0 u1, CF9 = #[u0, u1] := two_of hc2
      have c0 : W9.cell? ⟨bf, 0, none⟩ = some u0 := BF9.cell 0
      have c1 : W9.cell? ⟨bf, 1, none⟩ = some u1 := BF9.cell 1
      have f0 : W9.frozen? ⟨bf, 0, none⟩ = false := BF9.frozen 0
      have f1 : W9.frozen? ⟨bf, 1, none⟩ = false := BF9.frozen 1
      have BZ := (BF9.set_ 0 (.string nm')).set_ 1 (.slice (some ⟨bl, 0, none⟩) 1 1)
      have SZ : Soft w1.heap.size 40 W9 ((W9.setCell ⟨bf, 0, none⟩ (.string nm')).setCell ⟨bf, 1, none⟩ (.slice (some ⟨bl, 0, none⟩) 1 1)) := (Soft.set_ BF9 NBF.out 0 _).trans (Soft.set_ (BF9.set_ 0 _) NBF.out 1 _)
      have BSZ := SZ.other BS9 (by decide)
      go_simp
      refine hK _ _ SZ ?_
      refine doneX (by kernel_rfl) (NoPanic.normal' ?_) _
      clear hK K
      go_wp2_with fail
      go_meet
      exact ⟨bf, bl, rfl, Lib.hid ⟨BZ, BSZ, NBF.out, NBS.out⟩, Lib.hid ((HB9.out.trans SZ).below (Nat.le_refl _))⟩
    · have HB9 := Lib.hid (HB.out.trans HW9)
      go_simp
      obtain ⟨bf, hbf⟩ : ∃ bf, bf = W9.heap.size := ⟨_, rfl⟩
      obtain ⟨W8, hW8⟩ : ∃ W8, W8 = W9.alloc (.cells #[.string ⟨#[]⟩, .slice none 0 0] 40) := ⟨_, rfl⟩
      have hb8 : Soft w1.heap.size 40 W9 W8 := by rw [hW8]; exact Soft.alloc _ _
      have BF := Lib.hid (show Blk W8 bf _ _ by rw [hW8, hbf]; exact Blk.new W9 _ _)
      have NBF := Lib.hid (show w1.heap.size ≤ bf by rw [hbf]; exact HB9.out.size)
      rw [← hbf, ← hW8]
      have HB' := Lib.hid (HB9.out.trans hb8)
      refine hK _ _ hb8 ?_
      clear hK K HB HB9 hb8 HW9 hbf hW8
      have HB := Lib.hid HB'.out
      clear HB'
      have hcf0 : (#[Value.string ⟨#[]⟩, .slice none 0 0] : Array Value).size = 2 := rfl
      refine soloX (Soft.pre _ _) 8 rfl (by kernel_rfl) (fun W9 HW9 K hK => ?_)
      have HB9 := Lib.hid (HB.out.trans HW9)
      go_simp
      obtain ⟨bl, hbl⟩ : ∃ bl, bl = W9.heap.size := ⟨_, rfl⟩
      obtain ⟨W8, hW8⟩ : ∃ W8, W8 = W9.alloc (.cells #[.string x] 9) := ⟨_, rfl⟩
      have hb8 : Soft w1.heap.size 40 W9 W8 := by rw [hW8]; exact Soft.alloc _ _
      have BS := Lib.hid (show Blk W8 bl _ _ by rw [hW8, hbl]; exact Blk.new W9 _ _)
      have NBS := Lib.hid (show w1.heap.size ≤ bl by rw [hbl]; exact HB9.out.size)
      obtain ⟨CF9, q9, q9s⟩ := HW9.same BF.out
      obtain ⟨CF8, q8, q8s⟩ := hb8.same q9
      have BF' := Lib.hid q8
      have hcf : CF8.size = 2 := q8s.trans (q9s.trans hcf0)
      rw [← hbl, ← hW8]
      have HB' := Lib.hid (HB9.out.trans hb8)
      refine hK _ _ hb8 ?_
      clear hK K HB HB9 hb8 HW9 hbl hW8 q9 q9s q8 q8s hcf0
      have HB := Lib.hid HB'.out
      clear HB'
      clear BF
      have BF := Lib.hid BF'.out
      clear BF'
      refine takeX (Soft.pre _ _) 9 rfl (by kernel_rfl) (by kernel_rfl) (by kernel_rfl) (by kernel_rfl) (fun _ _ _ _ _ h => h) (fun K hK => ?_)
      go_simp
      first
        | (refine hK _ ?_; clear hK K)
        | (apply Exists.intro
           refine ⟨fun W9 HW9 => ?_, hK _ ?_⟩
           (first | (go_simp; first | done | exact ⟨rfl, rfl⟩ | rfl))
           clear hK K)
      refine soloX (Soft.pre _ _) 11 rfl (by kernel_rfl) (fun W9 HW9 K hK => ?_)
      have HB9 := Lib.hid (HB.out.trans HW9)
      obtain ⟨CF9, BF9, hcf9⟩ := HW9.same BF.out
      have BS9 := HW9.other BS.out (by decide)
      have hc2 : CF9.size = 2 := hcf9.trans hcf
      obtain ⟨u0, u1, rfl⟩ : ∃ u0 u1, CF9 = #[u0, u1] := two_of hc2
      have c0 : W9.cell? ⟨bf, 0, none⟩ = some u0 := BF9.cell 0
      have c1 : W9.cell? ⟨bf, 1, none⟩ = some u1 := BF9.cell 1
      have f0 : W9.frozen? ⟨bf, 0, none⟩ = false := BF9.frozen 0
      have f1 : W9.frozen? ⟨bf, 1, none⟩ = false := BF9.frozen 1
      have BZ := (BF9.set_ 0 (.string nm')).set_ 1 (.slice (some ⟨bl, 0, none⟩) 1 1)
      have SZ : Soft w1.heap.size 40 W9 ((W9.setCell ⟨bf, 0, none⟩ (.string nm')).setCell ⟨bf, 1, none⟩ (.slice (some ⟨bl, 0, none⟩) 1 1)) := (Soft.set_ BF9 NBF.out 0 _).trans (Soft.set_ (BF9.set_ 0 _) NBF.out 1 _)
      have BSZ := SZ.other BS9 (by decide)
      go_simp
      refine hK _ _ SZ ?_
      refine doneX (by kernel_rfl) (NoPanic.normal' ?_) _
      clear hK K
      go_wp2_with fail
      go_meet
      exact ⟨bf, bl, rfl, Lib.hid ⟨BZ, BSZ, NBF.out, NBS.out⟩, Lib.hid ((HB9.out.trans SZ).below (Nat.le_refl _))⟩
  case rest =>
    obtain ⟨bf, bl, rfl, HBF, HBW⟩ := hcut
    obtain ⟨w3, hw3⟩ : ∃ w3, w3 = wc := ⟨_, rfl⟩
    rw [← hw3] at HBF HBW ⊢
    have HB3 := Lib.hid (HB1.out.trans (HBW.out.mono HB1.out.size))
    obtain ⟨i0, hi0, hz0, hz1, hz2⟩ := info_parts fd_row
    obtain ⟨G, ko, co, kf, cf, kl, cl, xs, fx, hr, ho, hG⟩ := HH.out
    have hu3 : Upd (fun _ => False) w w3 := Upd.of_below HB3.out (T := fun _ => False) (fun k h1 h2 => by omega)
    have HO3 := Lib.hid (ho.upd hu3 (fun h => h) (fun h => h) (fun h => h) (fun _ _ h => h))
    have HR3 := Lib.hid (hr.upd hu3 (fun h => h))
    have HGQ := Lib.hid hG
    have HGW : Hid (∀ k, (G k ∨ k = kl) → k < w.heap.size) := Lib.hid (fun k hk => by
      rcases hk with hk | hk
      · exact (ho.g k hk).1
      · obtain ⟨_, cur, hc⟩ := own_is ho.l (k := kl) rfl
        rw [hk]
        exact Blk.lt hc)
    obtain ⟨m, hm⟩ : ∃ m, m = Lp.length := ⟨_, rfl⟩
    obtain ⟨p, hp⟩ : ∃ p, p = Fp.length := ⟨_, rfl⟩
    obtain ⟨r, hr0⟩ : ∃ r, r = ls.length := ⟨_, rfl⟩
    have HM := Lib.hid hm
    have HPL := Lib.hid hp
    have HRL := Lib.hid hr0
    have hx := HO3.out.xlen
    rw [← hm, ← hp] at hx
    have k0 : w3.cell? ⟨q, 0, none⟩ = some (.slice (some ⟨ko, 0, none⟩) (m + 1) co) := by rw [hm]; exact HR3.out.cell 0
    have k1 : w3.cell? ⟨q, 1, none⟩ = some (.bool true) := HR3.out.cell 1
    have kso : w3.cell? ⟨ko, m * 2 + 1, none⟩ = some (.slice (some ⟨kf, 0, none⟩) (p + 1) cf) := by
      rw [HO3.out.o.cellAt (m * 2 + 1) (by rw [hm]; omega), hp, ← hx.1]
      simp
    rw [← hm] at hLp
    rw [← hp] at hFp HRES
    have HFN := Lib.hid hFn
    have HNMS := Lib.hid hnm
    have b1 : (m : Int) < (m : Int) + 1 := by omega
    clear HN HTR0 HB1 HH hr ho hG hu3 hm hp hr0 hx hFn hnm HBW e1 e2 p1 p2 p3 p4 p5 hex hw3
    go_wp2_with fail
    go_quiet (fail)
    obtain ⟨w4, hw4⟩ : ∃ w4, w4 = w3.drewN nq := ⟨_, rfl⟩
    rw [← hw4]
    have hd4 : Upd (fun _ => False) w3 w4 := by rw [hw4]; exact (Upd.refl _ _).drewN nq
    have HO4 := Lib.hid (HO3.out.upd hd4 (fun h => h) (fun h => h) (fun h => h) (fun _ _ h => h))
    have HR4 := Lib.hid (HR3.out.upd hd4 (fun h => h))
    have HB4 : Hid (Below w.heap.size w w4) := Lib.hid (by rw [hw4]; exact HB3.out.trans (below_drewB _ _ nq))
    have HBF4 := Lib.hid (show Blk w4 bf _ _ from HBF.out.1.upd hd4 (fun h => h))
    have HBL4 := Lib.hid (show Blk w4 bl _ _ from HBF.out.2.1.upd hd4 (fun h => h))
    have HNB : Hid (w.heap.size ≤ bf ∧ w.heap.size ≤ bl) := Lib.hid ⟨Nat.le_trans HBZ.out HBF.out.2.2.1, Nat.le_trans HBZ.out HBF.out.2.2.2⟩
    have ks4 : w4.cell? ⟨ko, m * 2 + 1, none⟩ = some (.slice (some ⟨kf, 0, none⟩) (p + 1) cf) := by rw [hw4]; exact kso
    clear hw4 hd4 k0 k1 kso HO3 HR3 HB3 HBF
    by_cases h40 : p + 1 = 40
    · have q40 : (((p : Int) + 1) == 40) = true := by rw [beq_iff_eq]; omega
      have HE : Hid (res = .error 12) := Lib.hid (by rw [HRES.out, if_pos h40])
      clear h40
      go_wp2_with fail
      go_ret
      rw [HE.out]
      exact ⟨rfl, HB4.out.mono hbw⟩
    have q40 : (((p : Int) + 1) == 40) = false := by rw [beq_eq_false_iff_ne]; omega
    obtain ⟨hv, hhv⟩ : ∃ hv, hv = hasN (Fp ++ [⟨nm, ls⟩]) nm' := ⟨_, rfl⟩
    have HRES2 : Hid (res = if hv then .error 4 else .ok (.opn Lp l0 (Fp ++ [⟨nm, ls⟩]) nm' [x])) := Lib.hid (by rw [HRES.out, if_neg h40, hhv])
    have HHS : Hid (∀ W, Lat w4 W → Calls Tryd.prog 51 #[.slice (some ⟨kf, 0, none⟩) (p + 1) cf, .string nm'] W fun e w' => e = .returned (.bool hv) ∧ Lat W w') := Lib.hid (fun W hW => by
      rw [hhv]
      have hu : Upd (fun _ => False) w4 W := Upd.of_below (show Below w4.heap.size w4 W from hW) (T := fun _ => False) (fun k h1 h2 => by omega)
      have hOW := HO4.out.upd hu (fun h => h) (fun h => h) (fun h => h) (fun _ _ h => h)
      have hlen : (Fp ++ [(⟨nm, ls⟩ : Fd)]).length = p + 1 := by rw [List.length_append, HPL.out]; rfl
      refine has_any (fun k => G k ∨ k = kf ∨ k = kl) _ _ _ (fx ++ [.string nm, .slice (some ⟨kl, 0, none⟩) ls.length cl]) _ nm' W ?_ ?_ hlen.symm (by omega) (fun f hf => ?_) hnms
      · have := RowG.of_own (G := fun k => G k ∨ k = kf ∨ k = kl) hOW.f (fun k e => by injection e with e; injection e with e; exact .inr (.inl e.symm))
        rw [← HPL.out] at this
        exact this
      · exact FV.snoc (f := ⟨nm, ls⟩) ⟨_, _, rfl, own_cap hOW.l, RowG.of_own hOW.l (fun k e => by injection e with e; injection e with e; exact .inr (.inr e.symm))⟩ (hOW.fv.mono (fun k hk => .inl hk))
      · rcases List.mem_append.1 hf with h | h
        · exact HFN.out f h
        · rw [List.mem_singleton] at h; subst h; exact HNMS.out)
    have HKS : Hid (∀ W, Lat w4 W → W.cell? ⟨ko, m * 2 + 1, none⟩ = some (.slice (some ⟨kf, 0, none⟩) (p + 1) cf) ∧ W.cell? ⟨bf, 0, none⟩ = some (.string nm')) := Lib.hid (fun W hW => by
      have hW : Below w4.heap.size w4 W := hW
      exact ⟨(hW.cell (p := ⟨ko, m * 2 + 1, none⟩) (World.block_lt_of_cell? w4 _ ks4)).trans ks4, (HBF4.out.below hW HBF4.out.lt).cell 0⟩)
    clear hhv h40 HRES HFN HNMS
    go_upto_region 13 with fail
    have HB : Hid (Lat w4 w4.drew) := Lib.hid ⟨rfl, rfl, rfl, Nat.le_refl _, fun _ _ => rfl⟩
    refine regionX (R := Lat) (by kernel_rfl) ?_
    refine takeX (⟨Lat.refl, fun _ _ _ => Lat.trans⟩) 0 rfl (by kernel_rfl) (by kernel_rfl) (by kernel_rfl) (by kernel_rfl) (fun _ _ _ _ _ h => h) (fun K hK => ?_)
    go_simp
    first
      | (refine hK _ ?_; clear hK K)
      | (apply Exists.intro
         refine ⟨fun W9 HW9 => ?_, hK _ ?_⟩
         (first | (go_simp; first | done | exact ⟨rfl, rfl⟩ | rfl))
         clear hK K)
    refine takeX (⟨Lat.refl, fun _ _ _ => Lat.trans⟩) 1 rfl (by kernel_rfl) (by kernel_rfl) (by kernel_rfl) (by kernel_rfl) (fun _ _ _ _ _ h => h) (fun K hK => ?_)
    go_simp
    first
      | (refine hK _ ?_; clear hK K)
      | (apply Exists.intro
         refine ⟨fun W9 HW9 => ?_, hK _ ?_⟩
         (first | (go_simp; first | done | exact ⟨rfl, rfl⟩ | rfl))
         clear hK K)
    refine takeX (⟨Lat.refl, fun _ _ _ => Lat.trans⟩) 2 rfl (by kernel_rfl) (by kernel_rfl) (by kernel_rfl) (by kernel_rfl) (fun _ _ _ _ _ h => h) (fun K hK => ?_)
    go_simp
    first
      | (refine hK _ ?_; clear hK K)
      | (apply Exists.intro
         refine ⟨fun W9 HW9 => ?_, hK _ ?_⟩
         (first | (go_simp; first | done | exact ⟨rfl, rfl⟩ | rfl))
         clear hK K)
    refine takeX (⟨Lat.refl, fun _ _ _ => Lat.trans⟩) 3 rfl (by kernel_rfl) (by kernel_rfl) (by kernel_rfl) (by kernel_rfl) (fun _ _ _ _ _ h => h) (fun K hK => ?_)
    go_simp
    first
      | (refine hK _ ?_; clear hK K)
      | (apply Exists.intro
         refine ⟨fun W9 HW9 => ?_, hK _ ?_⟩
         (first | (go_simp; first | done | exact ⟨rfl, rfl⟩ | rfl) | (obtain ⟨c1, c2⟩ := HKS.out W9 (HB.out.trans HW9); go_simp; first | done | exact ⟨rfl, rfl⟩ | rfl))
         clear hK K)
    refine takeX (⟨Lat.refl, fun _ _ _ => Lat.trans⟩) 4 rfl (by kernel_rfl) (by kernel_rfl) (by kernel_rfl) (by kernel_rfl) (fun _ _ _ _ _ h => h) (fun K hK => ?_)
    go_simp
    first
      | (refine hK _ ?_; clear hK K)
      | (apply Exists.intro
         refine ⟨fun W9 HW9 => ?_, hK _ ?_⟩
         (first | (go_simp; first | done | exact ⟨rfl, rfl⟩ | rfl))
         clear hK K)
    refine takeX (⟨Lat.refl, fun _ _ _ => Lat.trans⟩) 5 rfl (by kernel_rfl) (by kernel_rfl) (by kernel_rfl) (by kernel_rfl) (fun _ _ _ _ _ h => h) (fun K hK => ?_)
    go_simp
    first
      | (refine hK _ ?_; clear hK K)
      | (apply Exists.intro
         refine ⟨fun W9 HW9 => ?_, hK _ ?_⟩
         (first | (go_simp; first | done | exact ⟨rfl, rfl⟩ | rfl) | (obtain ⟨c1, c2⟩ := HKS.out W9 (HB.out.trans HW9); go_simp; first | done | exact ⟨rfl, rfl⟩ | rfl))
         clear hK K)
    refine takeX (⟨Lat.refl, fun _ _ _ => Lat.trans⟩) 6 rfl (by kernel_rfl) (by kernel_rfl) (by kernel_rfl) (by kernel_rfl) (fun _ _ _ _ _ h => h) (fun K hK => ?_)
    go_simp
    first
      | (refine hK _ ?_; clear hK K)
      | (apply Exists.intro
         refine ⟨fun W9 HW9 => ?_, hK _ ?_⟩
         (first | (go_simp; first | done | exact ⟨rfl, rfl⟩ | rfl) | (go_at_call 51; exact HHS.out W9 (HB.out.trans HW9)))
         clear hK K)
    refine soloX ⟨Lat.refl, fun _ _ _ => Lat.trans⟩ 7 rfl (by kernel_rfl) (fun W9 HW9 K hK => ?_)
    have HB9 := Lib.hid (HB.out.trans HW9)
    go_simp
    refine hK _ _ (Lat.refl _) ?_
    refine doneX (by kernel_rfl) (NoPanic.normal' ?_) _
    clear hK K
    have hu6 : Upd (fun _ => False) w4 W9 := Upd.of_below (show Below w4.heap.size w4 W9 from HB9.out) (T := fun _ => False) (fun k h1 h2 => by omega)
    obtain ⟨w6, hw6⟩ : ∃ w6, w6 = W9 := ⟨_, rfl⟩
    rw [← hw6] at hu6 HB9 ⊢
    have HO6 := Lib.hid (HO4.out.upd hu6 (fun h => h) (fun h => h) (fun h => h) (fun _ _ h => h))
    have HR6 := Lib.hid (HR4.out.upd hu6 (fun h => h))
    have HBF6 := Lib.hid (HBF4.out.upd hu6 (fun h => h))
    have HBL6 := Lib.hid (HBL4.out.upd hu6 (fun h => h))
    have HB6 : Hid (Below w.heap.size w w6) := Lib.hid (HB4.out.trans (Below.mono (show Below w4.heap.size w4 w6 from HB9.out) HB4.out.size))
    have ks6 : w6.cell? ⟨ko, m * 2 + 1, none⟩ = some (.slice (some ⟨kf, 0, none⟩) (p + 1) cf) := (HKS.out w6 HB9.out).1
    clear HW9 HB HB9 hu6 HHS HKS HO4 HR4 HBF4 HBL4 HB4 ks4 hw6 q40
    cases hv with
    | true =>
      have HE : Hid (res = .error 4) := Lib.hid (by rw [HRES2.out]; rfl)
      go_wp2_with fail
      go_ret
      rw [HE.out]
      exact ⟨rfl, HB6.out.mono hbw⟩
    | false =>
      have HE : Hid (res = .ok (.opn Lp l0 (Fp ++ [⟨nm, ls⟩]) nm' [x])) := Lib.hid (by rw [HRES2.out]; rfl)
      clear HRES2
      have kb0 : w6.cell? ⟨bf, 0, none⟩ = some (.string nm') := HBF6.out.cell 0
      have kb1 : w6.cell? ⟨bf, 1, none⟩ = some (.slice (some ⟨bl, 0, none⟩) 1 1) := HBF6.out.cell 1
      have HF6 : Hid (w6.ownsRow base 40 2 (.slice (some ⟨kf, 0, none⟩) (p + 1) cf) (p + 1) (fx ++ [.string nm, .slice (some ⟨kl, 0, none⟩) ls.length cl])) := Lib.hid (by rw [HPL.out]; exact HO6.out.f)
      have hz6 : base ≤ w6.heap.size := Nat.le_trans hbw HB6.out.size
      have fo6 : w6.frozen? ⟨ko, m * 2 + 1, none⟩ = false := HO6.out.o.frozenAt _
      have hko6 : ko < w6.heap.size := World.block_lt_of_cell? w6 _ ks6
      go_upto_region 15 with fail
      go_region_law ((refine step_append_any _ (by rfl) (.tmp 85) (.tmp 87) 32 (by rfl) base 40 i0 (.agg #[.string ⟨#[]⟩, .slice none 0 0]) 2 40 Tryd.underlying32 hi0 hz0 hz1 hz2 rfl (by decide) (.slice (some ⟨kf, 0, none⟩) (p + 1) cf) (p + 1) (fx ++ [.string nm, .slice (some ⟨kl, 0, none⟩) ls.length cl]) (by simp [Act.eval]) ((HF6.out.alloc _).drew) (w6.heap.size + 1) (some ⟨w6.heap.size, 0, none⟩) 1 1 [.string nm', .slice (some ⟨bl, 0, none⟩) 1 1] (by simp [Act.eval]) (reads_two (Blk.drew (Blk.new w6 _ _)) (by simp)) (fun u hu => by simp at hu; rcases hu with rfl | rfl <;> rfl) (by unfold maxLen; omega) (by omega) (Nat.le_trans hz6 (by simp)) ?_; intro v5 w5 hown5 hg5 hat5; obtain ⟨kf', c5, rfl, hkl5, hlt5⟩ := hown5.form (by omega); have hu5 : Upd (fun k => k = kf) w6 w5 := ((Upd.refl _ w6).alloc _).drew.grown hg5 (fun j hj => .inl (own_blk hj)); have HU5 := Lib.hid hu5; have HK5 : Hid (kf' = kf ∨ w6.heap.size ≤ kf') := Lib.hid (own_at (w2 := w6) hat5); have HW5 := Lib.hid hown5; have k5 : w5.cell? ⟨ko, m * 2 + 1, none⟩ = some (.slice (some ⟨kf, 0, none⟩) (p + 1) cf) := (hu5.cell (p := ⟨ko, m * 2 + 1, none⟩) hko6 HO6.out.ne.1).trans ks6; have f5 : w5.frozen? ⟨ko, m * 2 + 1, none⟩ = false := (hu5.frozen (p := ⟨ko, m * 2 + 1, none⟩) hko6 HO6.out.ne.1).trans fo6; clear hown5 hg5 hat5 hu5 hkl5 hlt5))
      all_goals
        go_wp2_with fail
        go_ret
        have hbl : w6.ownsRow base 9 1 (.slice (some ⟨bl, 0, none⟩) 1 1) 1 [.string x] := own_of_blk HBL6.out (Nat.le_trans hbw HNB.out.2)
        have hne : bl ≠ kf := own_ne hbl HO6.out.f (by decide)
        have hfin := HO6.out.field (nm' := nm') (x := x) (kf' := kf') (c5 := c5) (kl' := bl) (cl' := 1) HU5.out HK5.out (fun k hk e => by have h1 := HGW.out k hk; have h2 := HNB.out.2; omega) (by rw [← HPL.out]; exact HW5.out) (own_upd hbl HU5.out (fun k e => by injection e with e; subst e; exact hne))
        rw [← HPL.out, ← HM.out] at hfin
        rw [HE.out]
        have hqk : q ≠ kf ∧ q ≠ ko ∧ q ≠ kl := ⟨Ne.symm (own_ne_blk HO6.out.f HR6.out (by decide)), Ne.symm (own_ne_blk HO6.out.o HR6.out (by decide)), Ne.symm (own_ne_blk HO6.out.l HR6.out (by decide))⟩
        refine ⟨rfl, ⟨fun k => G k ∨ k = kl, ko, co, kf', c5, bl, 1, xs, _, ?_, hfin.1, fun k hk => ?_⟩, ?_⟩
        · rw [← HM.out]
          have := HR6.out.upd hfin.2 (fun h => by rcases h with h | h; exact hqk.1 h; exact hqk.2.1 h)
          rw [← HM.out] at this
          exact this
        · rcases hk with hk | hk
          · exact HGQ.out k hk
          · rw [hk]; exact ⟨(own_is HO6.out.l rfl).1, Ne.symm hqk.2.2⟩
        · exact (HB6.out.mono hbw).trans (hfin.2.below (fun k hk => by
            rcases hk with rfl | rfl
            · exact (own_is HO6.out.f rfl).1
            · exact (own_is HO6.out.o rfl).1) hz6)
end Go.Proofs.YtjkaigfpjebfbaaDoor
