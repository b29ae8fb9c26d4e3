/- Stanzas: the plain law: lines into stanzas. -/
import Derived.Test.YtjkaigfpjebfbaaGreatDoorTxt8
import Derived.Lib.Hide
namespace Go.Proofs.YtjkaigfpjebfbaaGreatDoor
set_option linter.unusedVariables false

def lowU (b : Nat) : Nat := if 65 ≤ b ∧ b ≤ 90 then b + 32 else b
theorem lowU_lt {b : Nat} (h : b < 256) : lowU b < 256 := by unfold lowU; split <;> omega
/-- A text, its capitals as small letters. -/
def lowL (l : List UInt8) : List UInt8 := l.map fun b => UInt8.ofNat (lowU b.toNat)
def lowB (s : ByteArray) : ByteArray := ofL (lowL (bl s))
def sameN (a b : ByteArray) : Bool := decide (lowB a = lowB b)
theorem lowL_len (l : List UInt8) : (lowL l).length = l.length := List.length_map _
theorem lowB_size (s : ByteArray) : (lowB s).size = s.size := by
  show (lowL (bl s)).length = _
  rw [lowL_len]; rfl
/-- How many bytes a field's name has that begins a text; 0: there is none. -/
def nmF (s : ByteArray) : Nat → Nat → Nat
  | 0, _ => s.size
  | f + 1, i => if i < s.size then (if byteAt s i = 58 then i else if byteAt s i < 33 ∨ 126 < byteAt s i ∨ (i = 0 ∧ (byteAt s i = 35 ∨ byteAt s i = 45)) then 0 else nmF s f (i + 1)) else s.size
def nameN (s : ByteArray) : Nat := nmF s s.size 0
theorem nmF_end (s : ByteArray) (f i : Nat) (h : ¬ i < s.size) : nmF s f i = s.size := by cases f <;> simp [nmF, h]
theorem nmF_step (s : ByteArray) (f i : Nat) (h : i < s.size) : nmF s (f + 1) i = if byteAt s i = 58 then i else if byteAt s i < 33 ∨ 126 < byteAt s i ∨ (i = 0 ∧ (byteAt s i = 35 ∨ byteAt s i = 45)) then 0 else nmF s f (i + 1) := by
  show (if i < s.size then _ else _) = _
  rw [if_pos h]
theorem nmF_le (s : ByteArray) : ∀ (f i : Nat), i ≤ s.size → nmF s f i ≤ s.size
  | 0, i, h => Nat.le_refl _
  | f + 1, i, h => by
    by_cases hi : i < s.size
    · rw [nmF_step s f i hi]
      split
      · exact h
      · split
        · exact Nat.zero_le _
        · exact nmF_le s f (i + 1) (by omega)
    · rw [nmF_end s _ i hi]; exact Nat.le_refl _
theorem nameN_le (s : ByteArray) : nameN s ≤ s.size := nmF_le s _ 0 (Nat.zero_le _)
/-- A field: its name, its lines. -/
structure Fd where
  n : ByteArray
  ls : List ByteArray
/-- A stanza: the line at which it begins, its fields. -/
structure St where
  line : Int
  fs : List Fd
/-- What is read so far: nothing begun; or a stanza that is begun, its last field open. -/
inductive PS where
  | shut (L : List St)
  | opn (Lp : List St) (ln : Int) (Fp : List Fd) (nm : ByteArray) (ls : List ByteArray)
def PS.all : PS → List St
  | .shut L => L
  | .opn Lp ln Fp nm ls => Lp ++ [⟨ln, Fp ++ [⟨nm, ls⟩]⟩]
def isRem (s : ByteArray) : Bool := decide (0 < s.size) && decide (byteAt s 0 = 35)
def isWh (s : ByteArray) : Bool := decide (0 < s.size) && wB (byteAt s 0)
def dotB : ByteArray := ⟨#[46]⟩
/-- A further line's text. -/
def furT (s : ByteArray) : ByteArray := if trimR (s.extract 1 s.size) = dotB then ⟨#[]⟩ else trimR (s.extract 1 s.size)
def hasN (l : List Fd) (nm : ByteArray) : Bool := l.any fun f => sameN f.n nm
def fieldS (s : ByteArray) (ln : Int) (σ : PS) : Except Int PS :=
  if nameN s = 0 ∨ nameN s = s.size then .error 3 else
  match σ with
  | .shut L => if L.length = 200 then .error 12 else .ok (.opn L ln [] (s.extract 0 (nameN s)) [trimB (s.extract (nameN s + 1) s.size)])
  | .opn Lp l0 Fp nm ls => if Fp.length + 1 = 40 then .error 12 else if hasN (Fp ++ [⟨nm, ls⟩]) (s.extract 0 (nameN s)) then .error 4 else
      .ok (.opn Lp l0 (Fp ++ [⟨nm, ls⟩]) (s.extract 0 (nameN s)) [trimB (s.extract (nameN s + 1) s.size)])
def furS (s : ByteArray) : PS → Except Int PS
  | .shut _ => .error 3
  | .opn Lp l0 Fp nm ls => .ok (.opn Lp l0 Fp nm (ls ++ [furT s]))
def takeS (s : ByteArray) (ln : Int) (σ : PS) : Except Int PS :=
  if isRem s then .ok σ else if (trimB s).size = 0 then .ok (.shut σ.all) else if isWh s then furS s σ else fieldS s ln σ
/-- Lines, from number i on: what is read, or the error and its line. -/
def runS : List ByteArray → Nat → PS → Except (Int × Nat) PS
  | [], _, σ => .ok σ
  | s :: r, i, σ => match takeS s ((i : Int) + 1) σ with
    | .error e => .error (e, i + 1)
    | .ok σ' => runS r (i + 1) σ'
def parseS (b : ByteArray) : Except (Int × Nat) PS := if (linesErr b).1 = 0 then runS (linesGot b) 0 (.shut []) else .error (((linesErr b).1 : Int), (linesErr b).2)
def gotS : Except (Int × Nat) PS → List St
  | .ok σ => σ.all
  | .error _ => []
def errS : Except (Int × Nat) PS → Int × Nat
  | .ok _ => (0, 0)
  | .error e => e
end Go.Proofs.YtjkaigfpjebfbaaGreatDoor
