/- RelationWhite: the walk. -/
import Derived.Test.YtdchnllflodmkaaRA1
import Derived.Test.YtdchnllflodmkaaRA2
import Derived.Test.YtdchnllflodmkaaOpen
import Derived.Test.YtdchnllflodmkaaRo
import Derived.Deep.Cut
namespace Go.Proofs.Ytdchnllflodmkaa
open Go.RowKit
set_option linter.unusedVariables false

def gapB (r : Nat) : ByteArray := if r = 0 then ⟨#[]⟩ else if r = 1 then ⟨#[32]⟩ else if r = 2 then ⟨#[9]⟩ else ⟨#[32, 32]⟩
def gpW (bs : List Nat) (i : Nat) : Rl.Bs := if i < bs.length then bl (gapB (bs.getD i 0 % 4)) else []
theorem gapB_ok : ∀ r, r < 4 → (∀ b ∈ bl (gapB r), Rl.cls b = 1) ∧ (gapB r).size ≤ 2
  | 0, _ => by decide
  | 1, _ => by decide
  | 2, _ => by decide
  | 3, _ => by decide
theorem gpW_white (bs : List Nat) : ∀ i, ∀ b ∈ gpW bs i, Rl.cls b = 1 := fun i b hb => by
  unfold gpW at hb
  split at hb
  · exact (gapB_ok _ (Nat.mod_lt _ (by omega))).1 b hb
  · cases hb
theorem cls_two {c : Nat} (hc : c < 256) : Rl.cls (UInt8.ofNat c) = 2 ↔ (c = 40 ∨ c = 41 ∨ c = 44 ∨ c = 124) := by
  have key : ∀ c : Fin 256, Rl.cls (UInt8.ofNat c.val) = 2 ↔ (c.val = 40 ∨ c.val = 41 ∨ c.val = 44 ∨ c.val = 124) := by decide +kernel
  exact key ⟨c, hc⟩
/-- One place of the wide text. -/
theorem wide_step {gp : Nat → Rl.Bs} {S : ByteArray} {i : Nat} {W : ByteArray} {all : Rl.Bs} (hi : i < S.size) (h : bl W ++ Rl.wideF gp i ((bl S).drop i) = all) {p : ByteArray}
    (hp : bl p = if (bl S)[i]'(by rw [bl_len]; exact hi) = 32 then gp i else if Rl.cls ((bl S)[i]'(by rw [bl_len]; exact hi)) = 2 then gp i ++ ((bl S)[i]'(by rw [bl_len]; exact hi) :: gp i) else [(bl S)[i]'(by rw [bl_len]; exact hi)]) :
    bl (W ++ p) ++ Rl.wideF gp (i + 1) ((bl S).drop (i + 1)) = all := by
  rw [← h, List.drop_eq_getElem_cons (i := i) (l := bl S) (by rw [bl_len]; exact hi), bl_app, hp]
  show _ = bl W ++ ((if _ = 32 then _ else _) ++ Rl.wideF gp (i + 1) ((bl S).drop (i + 1)))
  rw [List.append_assoc]
theorem bl_one (S : ByteArray) (i : Nat) (hi : i < S.size) : bl (S.extract i (i + 1)) = [(bl S)[i]'(by rw [bl_len]; exact hi)] := by
  rw [bl_part, List.drop_eq_getElem_cons (by rw [bl_len]; exact hi)]
  have : i + 1 - i = 1 := by omega
  rw [this]
  rfl
set_option maxRecDepth 100000 in
set_option maxHeartbeats 4000000 in
theorem white_core (v1 : Value) (S : ByteArray) (L : List (List RA)) (Ag : Option Addr) (ng cg : Nat) (bs : List Nat) (w : World)
    (HAW : Hid (∀ W, Calls Try.prog 12 #[] W fun e w' => e = .returned (.bool true) ∧ Below W.heap.size W w'))
    (HLT : Hid (Calls Try.prog 13 #[v1] w fun e w' => e = .returned (.bool true) ∧ Below w.heap.size w w'))
    (HT1 : Hid (∀ W, Below w.heap.size w W → Calls Try.prog 14 #[v1] W fun e w' => e = .returned (.string S) ∧ Below W.heap.size W w'))
    (HP : Hid (∀ W T, T.size ≤ 1048576 → bl T = [32] ++ (Rl.wideF (gpW bs) 0 (bl S) ++ [9]) → Calls Try.prog 9 #[.string T] W fun e w' => Below W.heap.size W w' ∧ ∃ v, e = .returned (.tuple #[v, .int .i64 0]) ∧ ClsAt w' v L))
    (HSC : Hid (∀ W v, Below w.heap.size w W → ClsAt W v L → Calls Try.prog 11 #[v1, v] W fun e w' => e = .returned (.bool true) ∧ Below W.heap.size W w'))
    (HBY : Hid (∀ W, Below w.heap.size w W → Bytes W Ag ng bs)) (HNG : Hid (ng = bs.length))
    (eS : S.toList.isEmpty = false) (n : Nat) (hn : S.size = n) (hS : n ≤ 6000) (hng : ng ≤ 1048576) :
    Calls Try.prog 4 #[v1, .slice Ag ng cg] w fun e w' => e = .returned (.bool true) ∧ Below w.heap.size w w' := by
  have HN := Lib.hid hn
  go_enter Try.func4, Try.ntmps4
  go_wp2_with (first
    | (go_at_call 13; refine HLT.out.mono ?_; rintro e w1 ⟨rfl, hb1⟩; have HB1 := Lib.hid hb1; clear hb1)
    | (go_at_call 14; refine (HT1.out _ HB1.out).mono ?_; rintro e w2 ⟨rfl, hb2⟩; have HB2 := Lib.hid (HB1.out.trans (hb2.mono HB1.out.size)); clear hb2))
  clear HLT HT1 HB1 eS
  go_loopw [6, 22] (fun s t wr => ∃ (i : Nat) (W : ByteArray), s = .string W ∧ t = .int .i64 (i : Int) ∧ i ≤ n ∧ W.size ≤ 5 * i ∧ Hid (bl W ++ Rl.wideF (gpW bs) i ((bl S).drop i) = Rl.wideF (gpW bs) 0 (bl S)) ∧ Hid (Below w.heap.size w wr)) (fun _ t _ => n - (match t with | .int _ x => x.toNat | _ => 0))
  case atStart => exact ⟨0, _, rfl, rfl, Nat.zero_le _, Nat.le_refl _, Lib.hid rfl, HB2⟩
  case round =>
    obtain ⟨i, W, rfl, rfl, hi, hW, HI, HB⟩ := hrel
    clear HB2
    by_cases hlt : i < n
    · have hln : (i : Int) < (n : Int) := by omega
      have his : i < S.size := by omega
      have hbi : i < (bl S).length := his
      obtain ⟨b, hb⟩ : ∃ b, b = (bl S)[i] := ⟨_, rfl⟩
      obtain ⟨cb, hcb⟩ : ∃ cb, cb = b.toNat := ⟨_, rfl⟩
      have hx2 : ((S[i]'his).toNat : Nat) = cb := by rw [hcb, hb]; rfl
      have hcl : cb < 256 := by rw [hcb]; exact b.toNat_lt
      have hbo : b = UInt8.ofNat cb := by rw [hcb]; simp
      have HONE : Hid (bl (S.extract i (i + 1)) = [b]) := Lib.hid (by rw [hb]; exact bl_one S i his)
      have HSZ : Hid ((S.extract i (i + 1)).size = 1) := Lib.hid (by rw [← bl_len, HONE.out]; rfl)
      have HSTEP : Hid (∀ p : ByteArray, bl p = (if b = 32 then gpW bs i else if Rl.cls b = 2 then gpW bs i ++ (b :: gpW bs i) else [b]) → bl (W ++ p) ++ Rl.wideF (gpW bs) (i + 1) ((bl S).drop (i + 1)) = Rl.wideF (gpW bs) 0 (bl S)) := Lib.hid (fun p hp => wide_step his HI.out (by rw [← hb]; exact hp))
      have HBO := Lib.hid hbo
      clear HI hb hcb hbo hbi
      go_upto_if 28 with fail
      go_cut [8] (fun v wx => ∃ G : ByteArray, v = .string G ∧ Hid (bl G = gpW bs i) ∧ G.size ≤ 2 ∧ Hid (Below w.heap.size w wx))
      case first =>
        by_cases hg : i < ng
        · have hgg : (i : Int) < (ng : Int) := by omega
          have hby := HBY.out wr HB.out
          obtain ⟨g, o, rfl, _, hc⟩ := hby.2.2 (by omega)
          have kx := hc i hg
          obtain ⟨x, hx⟩ : ∃ x, x = bs.getD i 0 := ⟨_, rfl⟩
          rw [← hx] at kx
          have HG : Hid (bl (gapB (x % 4)) = gpW bs i) := Lib.hid (by unfold gpW; rw [if_pos (by have := HNG.out; omega), hx])
          have hx256 : x < 256 := by
            rw [hx, List.getD_eq_getElem?_getD, List.getElem?_eq_getElem (by have := HNG.out; omega)]
            exact hby.2.1 _ (List.getElem_mem _)
          have hr4 : x % 4 = 0 ∨ x % 4 = 1 ∨ x % 4 = 2 ∨ x % 4 = 3 := by omega
          clear hc hx hby
          rcases hr4 with hr | hr | hr | hr
          all_goals
            rw [hr] at HG
          · have e : (x : Int) % 4 = 0 := by omega
            clear hr
            go_wp2_with fail
            go_meet
            exact ⟨_, rfl, HG, by decide, Lib.hid (HB.out.alloc HB.out.size _)⟩
          · have e : (x : Int) % 4 = 1 := by omega
            clear hr
            go_wp2_with fail
            go_meet
            exact ⟨_, rfl, HG, by decide, Lib.hid (HB.out.alloc HB.out.size _)⟩
          · have e : (x : Int) % 4 = 2 := by omega
            clear hr
            go_wp2_with fail
            go_meet
            exact ⟨_, rfl, HG, by decide, Lib.hid (HB.out.alloc HB.out.size _)⟩
          · have e : (x : Int) % 4 = 3 := by omega
            clear hr
            go_wp2_with fail
            go_meet
            exact ⟨_, rfl, HG, by decide, Lib.hid (HB.out.alloc HB.out.size _)⟩
        · have hgg : ¬ (i : Int) < (ng : Int) := by omega
          have HG : Hid (bl (⟨#[]⟩ : ByteArray) = gpW bs i) := Lib.hid (by unfold gpW; rw [if_neg (by have := HNG.out; omega)]; rfl)
          go_wp2_with fail
          go_meet
          exact ⟨_, rfl, HG, by decide, HB⟩
      case rest =>
        obtain ⟨G, rfl, HG, hG, HB2⟩ := hcut
        clear HB
        by_cases h32 : cb = 32
        · subst h32
          have HST : Hid (bl (W ++ G) ++ Rl.wideF (gpW bs) (i + 1) ((bl S).drop (i + 1)) = Rl.wideF (gpW bs) 0 (bl S)) := Lib.hid (HSTEP.out G (by rw [if_pos (by rw [HBO.out]; rfl)]; exact HG.out))
          go_wp2_with fail
          refine ⟨⟨i + 1, _, rfl, by go_num, by omega, by rw [ByteArray.size_append]; omega, HST, HB2⟩, ?_⟩
          show n - ((i : Int) + 1).toNat < n - (i : Int).toNat
          omega
        by_cases hm : cb = 44 ∨ cb = 124 ∨ cb = 40 ∨ cb = 41
        · rcases hm with hk | hk | hk | hk
          · subst hk
            have HST : Hid (bl (W ++ (G ++ S.extract i (i + 1) ++ G)) ++ Rl.wideF (gpW bs) (i + 1) ((bl S).drop (i + 1)) = Rl.wideF (gpW bs) 0 (bl S)) := Lib.hid (HSTEP.out _ (by
              rw [if_neg (by rw [HBO.out]; decide), if_pos (by rw [HBO.out]; decide), bl_app, bl_app, HONE.out, HG.out]
              simp))
            have hsz := HSZ.out
            go_wp2_with fail
            refine ⟨⟨i + 1, _, rfl, by go_num, by omega, by rw [ByteArray.size_append, ByteArray.size_append, ByteArray.size_append]; omega, HST, HB2⟩, ?_⟩
            show n - ((i : Int) + 1).toNat < n - (i : Int).toNat
            omega
          · subst hk
            have HST : Hid (bl (W ++ (G ++ S.extract i (i + 1) ++ G)) ++ Rl.wideF (gpW bs) (i + 1) ((bl S).drop (i + 1)) = Rl.wideF (gpW bs) 0 (bl S)) := Lib.hid (HSTEP.out _ (by
              rw [if_neg (by rw [HBO.out]; decide), if_pos (by rw [HBO.out]; decide), bl_app, bl_app, HONE.out, HG.out]
              simp))
            have hsz := HSZ.out
            go_wp2_with fail
            refine ⟨⟨i + 1, _, rfl, by go_num, by omega, by rw [ByteArray.size_append, ByteArray.size_append, ByteArray.size_append]; omega, HST, HB2⟩, ?_⟩
            show n - ((i : Int) + 1).toNat < n - (i : Int).toNat
            omega
          · subst hk
            have HST : Hid (bl (W ++ (G ++ S.extract i (i + 1) ++ G)) ++ Rl.wideF (gpW bs) (i + 1) ((bl S).drop (i + 1)) = Rl.wideF (gpW bs) 0 (bl S)) := Lib.hid (HSTEP.out _ (by
              rw [if_neg (by rw [HBO.out]; decide), if_pos (by rw [HBO.out]; decide), bl_app, bl_app, HONE.out, HG.out]
              simp))
            have hsz := HSZ.out
            go_wp2_with fail
            refine ⟨⟨i + 1, _, rfl, by go_num, by omega, by rw [ByteArray.size_append, ByteArray.size_append, ByteArray.size_append]; omega, HST, HB2⟩, ?_⟩
            show n - ((i : Int) + 1).toNat < n - (i : Int).toNat
            omega
          · subst hk
            have HST : Hid (bl (W ++ (G ++ S.extract i (i + 1) ++ G)) ++ Rl.wideF (gpW bs) (i + 1) ((bl S).drop (i + 1)) = Rl.wideF (gpW bs) 0 (bl S)) := Lib.hid (HSTEP.out _ (by
              rw [if_neg (by rw [HBO.out]; decide), if_pos (by rw [HBO.out]; decide), bl_app, bl_app, HONE.out, HG.out]
              simp))
            have hsz := HSZ.out
            go_wp2_with fail
            refine ⟨⟨i + 1, _, rfl, by go_num, by omega, by rw [ByteArray.size_append, ByteArray.size_append, ByteArray.size_append]; omega, HST, HB2⟩, ?_⟩
            show n - ((i : Int) + 1).toNat < n - (i : Int).toNat
            omega
        · have q1 : ((cb : Int) == 32) = false := by rw [beq_eq_false_iff_ne]; omega
          have q2 : ((cb : Int) == 44) = false := by rw [beq_eq_false_iff_ne]; omega
          have q3 : ((cb : Int) == 124) = false := by rw [beq_eq_false_iff_ne]; omega
          have q4 : ((cb : Int) == 40) = false := by rw [beq_eq_false_iff_ne]; omega
          have q5 : ((cb : Int) == 41) = false := by rw [beq_eq_false_iff_ne]; omega
          have HST : Hid (bl (W ++ S.extract i (i + 1)) ++ Rl.wideF (gpW bs) (i + 1) ((bl S).drop (i + 1)) = Rl.wideF (gpW bs) 0 (bl S)) := Lib.hid (HSTEP.out _ (by
            rw [if_neg (by
              rw [HBO.out]
              intro e
              have := congrArg UInt8.toNat e
              rw [UInt8.toNat_ofNat_of_lt' (by exact hcl)] at this
              exact h32 this), if_neg (by rw [HBO.out, cls_two hcl]; omega), HONE.out]))
          have hsz := HSZ.out
          clear hm h32
          go_wp2_with fail
          refine ⟨⟨i + 1, _, rfl, by go_num, by omega, by rw [ByteArray.size_append]; omega, HST, HB2⟩, ?_⟩
          show n - ((i : Int) + 1).toNat < n - (i : Int).toNat
          omega
    · have hln : ¬ (i : Int) < (n : Int) := by omega
      have hin : i = n := by omega
      have HALL : Hid (bl W = Rl.wideF (gpW bs) 0 (bl S)) := Lib.hid (by
        have h9 := HI.out
        rw [List.drop_eq_nil_of_le (by rw [bl_len]; omega)] at h9
        rw [← h9]
        show _ = bl W ++ []
        rw [List.append_nil])
      have hp := HP.out wr ((⟨#[32]⟩ : ByteArray) ++ W ++ (⟨#[9]⟩ : ByteArray)) (by
        rw [ByteArray.size_append, ByteArray.size_append]
        show 1 + W.size + 1 ≤ _
        omega) (by
        rw [bl_app, bl_app, HALL.out]
        show [32] ++ _ ++ [9] = _
        rw [List.append_assoc])
      have HPP := Lib.hid hp
      have hWs : W.size ≤ 30000 := by omega
      clear hp HP HI HALL hin hlt hW hi
      go_wp2_with (first
        | (go_at_call 9; refine HPP.out.mono ?_; rintro e w3 ⟨hb3, v3, rfl, hc3⟩; have HC3 := Lib.hid hc3; have HB3 := Lib.hid (HB.out.trans (hb3.mono HB.out.size)); clear hc3 hb3)
        | (go_at_call 11; refine (HSC.out w3 _ HB3.out HC3.out).mono ?_; rintro e w4 ⟨rfl, hb4⟩; have HB4 := Lib.hid (HB3.out.trans (hb4.mono HB3.out.size)); clear hb4)
        | (go_at_call 12; refine (HAW.out _).mono ?_; rintro e w5 ⟨rfl, hb5⟩; have HB5 := Lib.hid (HB4.out.trans (hb5.mono HB4.out.size)); clear hb5))
      go_ret
      exact ⟨rfl, HB5.out⟩
set_option maxRecDepth 100000 in
set_option maxHeartbeats 1000000 in
theorem white_heavy (v1 : Value) (Ag : Option Addr) (ng cg : Nat) (w : World)
    (HAW : Hid (∀ W, Calls Try.prog 12 #[] W fun e w' => e = .returned (.bool true) ∧ Below W.heap.size W w'))
    (HLT : Hid (Calls Try.prog 13 #[v1] w fun e w' => e = .returned (.bool false) ∧ Below w.heap.size w w')) :
    Calls Try.prog 4 #[v1, .slice Ag ng cg] w fun e w' => e = .returned (.bool true) ∧ Below w.heap.size w w' := by
  go_enter Try.func4, Try.ntmps4
  go_wp2_with (first
    | (go_at_call 13; refine HLT.out.mono ?_; rintro e w1 ⟨rfl, hb1⟩; have HB1 := Lib.hid hb1; clear hb1)
    | (go_at_call 12; refine (HAW.out _).mono ?_; rintro e w5 ⟨rfl, hb5⟩; have HB5 := Lib.hid (HB1.out.trans (hb5.mono HB1.out.size)); clear hb5))
  go_ret
  exact ⟨rfl, HB5.out⟩
set_option maxRecDepth 100000 in
set_option maxHeartbeats 1000000 in
theorem white_none (v1 : Value) (S : ByteArray) (Ag : Option Addr) (ng cg : Nat) (w : World)
    (HAW : Hid (∀ W, Calls Try.prog 12 #[] W fun e w' => e = .returned (.bool true) ∧ Below W.heap.size W w'))
    (HLT : Hid (Calls Try.prog 13 #[v1] w fun e w' => e = .returned (.bool true) ∧ Below w.heap.size w w'))
    (HT1 : Hid (∀ W, Below w.heap.size w W → Calls Try.prog 14 #[v1] W fun e w' => e = .returned (.string S) ∧ Below W.heap.size W w')) (eS : S.toList.isEmpty = true) :
    Calls Try.prog 4 #[v1, .slice Ag ng cg] w fun e w' => e = .returned (.bool true) ∧ Below w.heap.size w w' := by
  go_enter Try.func4, Try.ntmps4
  go_wp2_with (first
    | (go_at_call 13; refine HLT.out.mono ?_; rintro e w1 ⟨rfl, hb1⟩; have HB1 := Lib.hid hb1; clear hb1)
    | (go_at_call 14; refine (HT1.out _ HB1.out).mono ?_; rintro e w2 ⟨rfl, hb2⟩; have HB2 := Lib.hid (HB1.out.trans (hb2.mono HB1.out.size)); clear hb2)
    | (go_at_call 12; refine (HAW.out _).mono ?_; rintro e w5 ⟨rfl, hb5⟩; have HB5 := Lib.hid (HB2.out.trans (hb5.mono HB2.out.size)); clear hb5))
  go_ret
  exact ⟨rfl, HB5.out⟩
theorem relationWhite_any (v1 : Value) (L : List (List RA)) (Ag : Option Addr) (ng cg : Nat) (bs : List Nat) (w : World) (h1 : ClsAt w v1 L) (hg : Bytes w Ag ng bs)
    (hL : L.length ≤ 1048576) (hng : ng ≤ 1048576) (hLs : ∀ c ∈ L, ∀ a ∈ c, a.n.size ≤ 1048576 ∧ a.v.size ≤ 1048576) :
    Calls Try.prog 4 #[v1, .slice Ag ng cg] w fun e w' => e = .returned (.bool true) ∧ Below w.heap.size w w' := by
  have HAW := Lib.hid (fun W => awake_any W)
  have hlt := light_any v1 L w h1 (by omega)
  by_cases hl : lightB L = true
  case neg =>
    have hl : lightB L = false := by simpa using hl
    rw [hl] at hlt
    exact white_heavy v1 Ag ng cg w HAW (Lib.hid hlt)
  rw [hl] at hlt
  have HLT := Lib.hid hlt
  have hll : L.length ≤ 30 ∧ ∀ l ∈ L, l.length ≤ 30 := by
    unfold lightB at hl
    simp only [Bool.and_eq_true, decide_eq_true_eq, List.all_eq_true] at hl
    exact hl
  have HT1 : Hid (∀ W, Below w.heap.size w W → Calls Try.prog 14 #[v1] W fun e w' => e = .returned (.string (Rl.tob (ltx L))) ∧ Below W.heap.size W w') := Lib.hid (fun W hW => Text_any v1 L W (h1.below hW) hLs)
  have eS := str_tob (ltx L)
  by_cases he : (ltx L).isEmpty = true
  · rw [he] at eS
    exact white_none v1 _ Ag ng cg w HAW HLT HT1 eS
  have he : (ltx L).isEmpty = false := by simpa using he
  rw [he] at eS
  have okl : okL L = true := by
    by_cases h : okL L = true
    · exact h
    · unfold ltx at he; rw [if_neg h] at he; cases he
  refine white_core v1 (Rl.tob (ltx L)) L Ag ng cg bs w HAW HLT HT1 (Lib.hid (fun W T hT hbT => ?_)) (Lib.hid (fun W u hW b => ?_)) (Lib.hid (fun W hW => hg.below hW)) (Lib.hid hg.1.symm) eS _ rfl (by show (ltx L).length ≤ _; exact ltx_len L) hng
  · have ht : Rl.toks (bl T) = Rl.toks (ltx L) := by
      rw [hbT, Rl.bl_tob]
      exact Rl.wide_toks _ (gpW_white bs) (ltx_gap okl) [32] [9] (by decide) (by decide)
    have hrb := reads_back okl ht (mf := anyF) (one := false) (fun _ _ _ _ => rfl) (fun h => by cases h)
    refine (Parse_any T W hT).mono fun e w' ⟨hb, v, he, ho⟩ => ?_
    rw [hrb] at he ho
    have ho := ho.cls
    have e9 : (okv (Rl.Rd.ok (L.map (·.map atmOf)))).map (·.map raA) = L := back_atm okl
    rw [e9] at ho
    exact ⟨hb, v, he, ho⟩
  · exact (SameClauses_any v1 u L L W (h1.below hW) b (by omega) (fun l hl9 => by have := hll.2 l hl9; omega)).mono fun e w' ⟨he, m, hm⟩ => ⟨by rw [he, decide_eq_true rfl], by rw [hm]; exact below_drewN _ _⟩
section
open Go.ChangeShapes Go.WideShapes Go.ChangeAt Go.ChangeMaps
theorem relationWhite_walk {H : Type} {enc : TypeId × Value → H} (W : World) {base : Nat} (v0 v1 : Value) {d0 d1 : DataW H} {p0 p1 : List MemPlace}
    (h0 : DataW.Trod enc Try.prog W 0 (fun _ => true) true 23 v0 d0 p0) (o0 : Value.okWide Try.prog W .any base 23 v0)
    (h1 : DataW.Trod enc Try.prog W 0 (fun _ => true) true 30 v1 d1 p1) (o1 : Value.okWide Try.prog W .any base 30 v1)
    (hk : Rows.uptoBulkAll [d0, d1] ≤ 1048576) :
    Calls Try.prog 4 #[v0, v1] W fun e w' => e = .returned (.bool true) ∧ Below W.heap.size W w' := by
  simp only [Rows.uptoBulkAll] at hk
  obtain ⟨A1, n1, c1, bs, rfl, hB1, _, _, hB2, _⟩ := open_bytes h1 o1
  obtain ⟨f0, g0⟩ := h0
  obtain ⟨a0, n0, c0, rfl⟩ := okWide_slice Try.underlying23 o0
  obtain ⟨L, hL1, hL2, hL3⟩ := open_cls g0
  simp only at hL2 hL3
  exact relationWhite_any _ L A1 n1 c1 bs W hL1 hB1 (by omega) (by omega) (fun c hc a ha => by have := (hL3 c hc).2 a ha; omega)
end
end Go.Proofs.Ytdchnllflodmkaa
