/- relation.words: the plain law: by runes as by bytes. -/
import Derived.Test.YtjkaigfpjebfbaaGreatDoorRl1
import Derived.Test.YtjkaigfpjebfbaaGreatDoorRc
import Derived.Test.YtjkaigfpjebfbaaGreatDoorZA
namespace Go.Proofs.YtjkaigfpjebfbaaGreatDoor
open Go.RowKit
set_option linter.unusedVariables false
namespace Rl
theorem u8_eq (b : UInt8) (k : Nat) (hk : k < 256) : b = UInt8.ofNat k ↔ b.toNat = k := by
  constructor
  · intro h; rw [h, UInt8.toNat_ofNat']; omega
  · intro h; rw [← h]; simp
theorem cls_N (b : UInt8) : cls b = clsN b.toNat := by
  unfold cls clsN
  have e : ∀ k : Nat, k < 256 → (b = UInt8.ofNat k) = (b.toNat = k) := fun k hk => propext (u8_eq b k hk)
  have e32 := e 32 (by decide); have e9 := e 9 (by decide); have e40 := e 40 (by decide); have e41 := e 41 (by decide); have e44 := e 44 (by decide); have e124 := e 124 (by decide); have e60 := e 60 (by decide); have e62 := e 62 (by decide); have e61 := e 61 (by decide)
  simp only [show (32 : UInt8) = UInt8.ofNat 32 from rfl, show (9 : UInt8) = UInt8.ofNat 9 from rfl, show (40 : UInt8) = UInt8.ofNat 40 from rfl, show (41 : UInt8) = UInt8.ofNat 41 from rfl, show (44 : UInt8) = UInt8.ofNat 44 from rfl, show (124 : UInt8) = UInt8.ofNat 124 from rfl, show (60 : UInt8) = UInt8.ofNat 60 from rfl, show (62 : UInt8) = UInt8.ofNat 62 from rfl, show (61 : UInt8) = UInt8.ofNat 61 from rfl, e32, e9, e40, e41, e44, e124, e60, e62, e61]
theorem clsN_high {c : Nat} (h : 128 ≤ c) : clsN c = 0 := by
  unfold clsN
  rw [if_neg (by omega), if_neg (by omega), if_neg (by omega)]
def tob (l : List UInt8) : ByteArray := ⟨l.toArray⟩
theorem bl_tob (l : List UInt8) : bl (tob l) = l := rfl
theorem tob_bl (s : ByteArray) : tob (bl s) = s := rfl
def cur (s : ByteArray) (frm pos : Nat) : List UInt8 := ((bl s).take pos).drop frm
theorem ext_cur (s : ByteArray) (frm pos : Nat) : s.extract frm pos = tob (cur s frm pos) := by
  apply bl_inj
  rw [bl_tob]
  unfold bl cur bl
  rw [Lib.extract_data, List.drop_take]
theorem cur_step (s : ByteArray) (frm pos : Nat) (h : pos < s.size) (hf : frm ≤ pos) : cur s frm (pos + 1) = cur s frm pos ++ [(bl s)[pos]'h] := by
  unfold cur
  rw [List.take_succ_eq_append_getElem (by exact h), List.drop_append_of_le_length (by rw [List.length_take, bl_len]; omega)]
theorem cur_none (s : ByteArray) (pos : Nat) : cur s pos pos = [] := by
  unfold cur
  rw [List.drop_of_length_le (by rw [List.length_take]; omega)]
theorem cur_ne (s : ByteArray) (frm pos : Nat) (h : pos ≤ s.size) : cur s frm pos ≠ [] ↔ frm < pos := by
  unfold cur
  rw [Ne, List.drop_eq_nil_iff, List.length_take, bl_len]
  omega
theorem byte_cls (s : ByteArray) (pos : Nat) (h : pos < s.size) : cls ((bl s)[pos]'h) = clsN (byteAt s pos) := by
  rw [cls_N, byteAt_get s pos h]; rfl
def done (s : ByteArray) : List ByteArray := (toks (bl s)).map tob
def Inv (s : ByteArray) (out : List ByteArray) (frm was pos : Nat) : Prop := frm ≤ pos ∧ out ++ (tk ((bl s).drop pos) (cur s frm pos) was).map tob = done s
theorem Inv.start (s : ByteArray) : Inv s [] 0 1 0 := ⟨Nat.le_refl _, by rw [cur_none]; rfl⟩
def out1 (s : ByteArray) (out : List ByteArray) (frm was pos : Nat) : List ByteArray := if was ≠ 1 ∧ frm < pos then out ++ [s.extract frm pos] else out
theorem Inv.stop {s : ByteArray} {out : List ByteArray} {frm was : Nat} (h : Inv s out frm was s.size) : out1 s out frm was s.size = done s := by
  have := h.2
  rw [List.drop_of_length_le (by rw [bl_len]; omega)] at this
  rw [← this]
  unfold out1 tk
  by_cases hc : was ≠ 1 ∧ frm < s.size
  · rw [if_pos hc, if_pos ⟨hc.1, (cur_ne s frm _ (Nat.le_refl _)).2 hc.2⟩, ext_cur]; rfl
  · rw [if_neg hc, if_neg (fun h2 => hc ⟨h2.1, (cur_ne s frm _ (Nat.le_refl _)).1 h2.2⟩)]; simp
theorem drop_at (s : ByteArray) (pos : Nat) (h : pos < s.size) : (bl s).drop pos = (bl s)[pos]'h :: (bl s).drop (pos + 1) := List.drop_eq_getElem_cons h
theorem Inv.byte {s : ByteArray} {out : List ByteArray} {frm was pos : Nat} (h : Inv s out frm was pos) (hp : pos < s.size) :
    if clsN (byteAt s pos) ≠ was ∨ clsN (byteAt s pos) = 2 then Inv s (out1 s out frm was pos) pos (clsN (byteAt s pos)) (pos + 1) else Inv s out frm was (pos + 1) := by
  have h2 := h.2
  rw [drop_at s pos hp, tk_cons, byte_cls s pos hp] at h2
  have hc1 : cur s pos (pos + 1) = [(bl s)[pos]'hp] := by rw [cur_step s pos pos hp (Nat.le_refl _), cur_none]; rfl
  by_cases hk : clsN (byteAt s pos) ≠ was ∨ clsN (byteAt s pos) = 2
  · rw [if_pos hk] at h2 ⊢
    refine ⟨by omega, ?_⟩
    rw [← h2, hc1]
    unfold out1
    by_cases hc : was ≠ 1 ∧ frm < pos
    · rw [if_pos hc, if_pos ⟨hc.1, (cur_ne s frm pos (by omega)).2 hc.2⟩, ext_cur]; simp
    · rw [if_neg hc, if_neg (fun h3 => hc ⟨h3.1, (cur_ne s frm pos (by omega)).1 h3.2⟩)]
  · rw [if_neg hk] at h2 ⊢
    refine ⟨by have := h.1; omega, ?_⟩
    rw [← h2, cur_step s frm pos hp h.1]
theorem Inv.skip {s : ByteArray} {out : List ByteArray} {frm : Nat} : ∀ (n : Nat) {pos : Nat}, Inv s out frm 0 pos → (∀ j, j < n → pos + j < s.size ∧ 128 ≤ byteAt s (pos + j)) → Inv s out frm 0 (pos + n)
  | 0, pos, h, _ => h
  | n + 1, pos, h, hj => by
    have h0 := hj 0 (by omega)
    have hb := h.byte h0.1
    rw [clsN_high (by simpa using h0.2), if_neg (by omega)] at hb
    have := Inv.skip n hb (fun j hjn => by have := hj (j + 1) (by omega); rw [show pos + 1 + j = pos + (j + 1) by omega]; exact this)
    rw [show pos + (n + 1) = pos + 1 + n by omega]
    exact this
theorem Inv.rune {s : ByteArray} {out : List ByteArray} {frm was pos : Nat} (h : Inv s out frm was pos) (hp : pos < s.size) :
    if clsN (Utf8.decode s pos).1 ≠ was ∨ clsN (Utf8.decode s pos).1 = 2 then Inv s (out1 s out frm was pos) pos (clsN (Utf8.decode s pos).1) (pos + (Utf8.decode s pos).2) else Inv s out frm was (pos + (Utf8.decode s pos).2) := by
  have hb := h.byte hp
  rcases rune_at s pos with ⟨h1, e⟩ | ⟨h1, h2⟩
  · rw [e]; exact hb
  · rw [clsN_high h1] at hb
    rw [clsN_high h2]
    have hwd := Lib.decode_width_pos s pos hp
    have hin := decode_in s pos hp
    have hj : ∀ j, j < (Utf8.decode s pos).2 - 1 → pos + 1 + j < s.size ∧ 128 ≤ byteAt s (pos + 1 + j) := fun j hj => ⟨by omega, decode_tail s pos j (by omega)⟩
    have he : pos + (Utf8.decode s pos).2 = pos + 1 + ((Utf8.decode s pos).2 - 1) := by omega
    rw [he]
    by_cases hk : (0 : Nat) ≠ was ∨ (0 : Nat) = 2
    · rw [if_pos hk] at hb ⊢
      exact hb.skip _ hj
    · rw [if_neg hk] at hb ⊢
      have : was = 0 := by omega
      subst this
      exact hb.skip _ hj
end Rl
end Go.Proofs.YtjkaigfpjebfbaaGreatDoor
