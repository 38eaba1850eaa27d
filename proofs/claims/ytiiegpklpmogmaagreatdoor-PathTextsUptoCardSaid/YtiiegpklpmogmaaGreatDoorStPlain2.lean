/- What a text means, in plain Lean. No program in sight. -/
import Derived.Test.YtiiegpklpmogmaaGreatDoorStPlain
import Derived.Lib.Split
import Derived.Shelf.Pu.ParseUintPublic10
set_option linter.unusedVariables false
set_option linter.unusedSimpArgs false
namespace Go.Proofs.YtiiegpklpmogmaaGreatDoor

/-- The words between the points. -/
def wordsOf (s : ByteArray) : List ByteArray := Lib.splitB ⟨#[46]⟩ 0 (Lib.countB s ⟨#[46]⟩) s
/-- A word's number, where the word is the number's one form. -/
def word1 (x : ByteArray) : Option Nat :=
  match Lib.parseUintB 64 x.data.toList with
  | .ok u => if (⟨(Lib.decDigits u).toArray⟩ : ByteArray) = x then some u else none
  | _ => none
def tm0 : Tm := ⟨0, 0, 0⟩
def tmOf (us : List Nat) : Tm := ⟨us.getD 0 0, us.getD 1 0, us.getD 2 0⟩
def parseV (s : ByteArray) (n : Int) : Tm × Int :=
  if n < 1 ∨ n > 3 then (tm0, 10)
  else if ((wordsOf s).length : Int) ≠ n then (tm0, 11)
  else match (wordsOf s).mapM word1 with
    | some us => (tmOf us, 0)
    | none => (tm0, 11)
end Go.Proofs.YtiiegpklpmogmaaGreatDoor
