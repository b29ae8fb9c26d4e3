/- The reference's Holds. -/
import Derived.Test.YtghfelfljblkbaaRSet
namespace Go.Proofs.Ytghfelfljblkbaa
open Go.RowKit Go.Sort
set_option linter.unusedVariables false

theorem any_take (p : Int → Bool) (zs : List Int) (k : Nat) (hk : k < zs.length) : (zs.take (k + 1)).any p = ((zs.take k).any p || p (zs.getD k 0)) := by
  rw [List.take_add_one, List.getD_eq_getElem?_getD, List.getElem?_eq_getElem hk, List.any_append]
  simp
theorem row_cell {w : World} {base n c : Nat} {A : Option Addr} {xs : List Value} {L : List (List Int)} (ho : w.ownsRow base 22 1 (.slice A n c) n xs) (hi : LIn w xs L) {j : Nat} (hj : j < L.length) : ∃ g Aj cj, A = some ⟨g, 0, none⟩ ∧ w.cell? ⟨g, j, none⟩ = some (.slice Aj (L[j]).length cj) ∧ Lits w Aj (L[j]).length L[j] := by
  obtain ⟨Aj, cj, hxj, hlj, _⟩ := hi.2 j hj
  have hn : n = L.length := by have := ho.1; rw [hi.1] at this; omega
  rcases ho.2 with ⟨h0, h00⟩ | ⟨g, cap', cur, h0, _⟩
  · omega
  · cases h0
    exact ⟨g, Aj, cj, rfl, by rw [World.ownsRow.cellAt ho j (by omega)]; exact hxj, hlj⟩
set_option maxRecDepth 100000 in
set_option maxHeartbeats 1000000 in
theorem RHolds_any (p cap nv : Nat) (A : Option Addr) (L : List (List Int)) (B : Option Addr) (n c : Nat) (bs : List Bool) (w : World) (h : RSetAt w p A cap nv L) (hL : ∀ r ∈ L, r.length ≤ 1048576) (hb : Bools w B n bs) (hn : n ≤ 9223372036854775807) :
    Calls Try.prog 31 #[.pointer (some ⟨p, 0, none⟩), .slice B n c] w fun e w' => e = .returned (.bool (holdsL bs L)) ∧ w = w' := by
  have k1 : w.cell? ⟨p, 1, none⟩ = some (.slice A L.length cap) := h.blk.cell 1
  have hlen := h.len
  have HS := Lib.hid h
  have HBL := Lib.hid hb
  have HLL := Lib.hid hL
  clear h hb hL
  go_enter Try.func31, Try.ntmps31
  go_wp2_with fail
  go_loopw [15] (fun t wr => ∃ i : Nat, t = .int .i64 (i : Int) ∧ i ≤ L.length ∧ Hid (holdsL bs L = holdsL bs (L.drop i)) ∧ w = wr) (fun t _ => L.length - (match t with | .int _ x => x.toNat | _ => 0))
  case atStart => exact ⟨0, rfl, Nat.zero_le _, Lib.hid rfl, rfl⟩
  case round =>
    obtain ⟨i, rfl, hi, HI, rfl⟩ := hrel
    by_cases hlt : i < L.length
    · obtain ⟨xs, hox, hix⟩ := HS.out.row
      obtain ⟨g, Aj, cj, hA, kg, hlj⟩ := row_cell hox hix hlt
      subst hA
      obtain ⟨r, hr⟩ : ∃ r, r = L[i] := ⟨_, rfl⟩
      rw [← hr] at kg hlj
      have hrl : r.length ≤ 1048576 := by rw [hr]; exact HLL.out _ (List.getElem_mem hlt)
      have HST : Hid (holdsL bs L = (r.any (hv bs) && holdsL bs (L.drop (i + 1)))) := Lib.hid (by rw [HI.out, holdsL_step bs L i hlt, hr])
      have i1 : (i : Int) < (L.length : Int) := by omega
      obtain ⟨q, hq⟩ : ∃ q, q = r.length := ⟨_, rfl⟩
      rw [← hq] at kg hlj hrl
      have HQ := Lib.hid hq
      have HLJ := Lib.hid hlj
      clear hox hix hlj hr hq
      go_upto_block 2 with fail
      go_cut [7] (fun v7 wx => wx = w ∧ v7 = .bool (r.any (hv bs)))
      case first =>
        go_wp2_with fail
        go_loopw [7, 21] (fun a t wx => ∃ k : Nat, t = .int .i64 (k : Int) ∧ k ≤ q ∧ a = .bool ((r.take k).any (hv bs)) ∧ wx = w) (fun _ t _ => q - (intOf t).toNat)
        case atStart => exact ⟨0, rfl, Nat.zero_le _, rfl, rfl⟩
        case round =>
          obtain ⟨k, rfl, hk, rfl, rfl⟩ := hrel
          by_cases hkq : k < q
          · obtain ⟨b, o, hAj, hbl, hc⟩ := HLJ.out.2.2 (by omega)
            subst hAj
            obtain ⟨x, hx⟩ : ∃ x, x = r.getD k 0 := ⟨_, rfl⟩
            have kx := hc k hkq
            rw [← hx] at kx
            have hxo : Ok x := by rw [hx]; exact HLJ.out.ok k
            have HSO := so_any x hxo B n c bs wr HBL.out hn
            have HTK : Hid ((r.take (k + 1)).any (hv bs) = ((r.take k).any (hv bs) || hv bs x)) := Lib.hid (by rw [any_take _ _ _ (by have := HQ.out; omega), hx])
            obtain ⟨bb, hbb⟩ : ∃ bb, bb = (r.take k).any (hv bs) := ⟨_, rfl⟩
            obtain ⟨cc, hcc⟩ : ∃ cc, cc = hv bs x := ⟨_, rfl⟩
            rw [← hcc] at HSO
            rw [← hbb, ← hcc] at HTK
            rw [← hbb]
            have HSOM := Lib.hid HSO
            have k2 : (k : Int) < (q : Int) := by omega
            clear HSO hbb hcc hx hc hbl hxo
            cases bb with
            | true =>
              go_wp2_with fail
              exact ⟨⟨k + 1, by go_num, by omega, by rw [HTK.out]; rfl, by first | rfl | trivial⟩, by simp [intOf]; omega⟩
            | false =>
              go_wp2_with (go_at_call 75; refine HSOM.out.mono ?_; rintro e w' ⟨rfl, rfl⟩)
              exact ⟨⟨k + 1, by go_num, by omega, by rw [HTK.out]; rfl, by first | rfl | trivial⟩, by simp [intOf]; omega⟩
          · have hkq2 : k = q := by omega
            have HT : Hid ((r.take k).any (hv bs) = r.any (hv bs)) := Lib.hid (by rw [List.take_of_length_le (by have := HQ.out; omega)])
            go_wp2_with fail
            go_meet
            exact ⟨rfl, by rw [HT.out]⟩
      case rest =>
        obtain ⟨rfl, rfl⟩ := hcut
        obtain ⟨bb, hbb⟩ : ∃ bb, bb = r.any (hv bs) := ⟨_, rfl⟩
        rw [← hbb] at HST ⊢
        clear hbb
        cases bb with
        | true =>
          go_wp2_with fail
          refine ⟨⟨i + 1, by go_num, by omega, Lib.hid (by rw [HST.out]; rfl), by first | rfl | trivial⟩, ?_⟩
          show L.length - ((i : Int) + 1).toNat < L.length - (i : Int).toNat
          omega
        | false =>
          go_wp2_with fail
          go_ret
          exact ⟨by rw [HST.out]; rfl, rfl⟩
    · have hil : i = L.length := by omega
      have HEQ : Hid (holdsL bs L = true) := Lib.hid (by rw [HI.out, hil, List.drop_of_length_le (Nat.le_refl _)]; rfl)
      clear hil
      go_wp2_with fail
      go_ret
      exact ⟨by rw [HEQ.out]; rfl, rfl⟩
end Go.Proofs.Ytghfelfljblkbaa
