/- Times in plain Lean: both orders, the least above and the greatest below. No program in sight. -/
import Derived.Test.YtiiegpklpmogmaaGreatDoorBase
import Derived.Lib.ItoaNum
import Derived.Lib.ItoaMem
import Derived.Lib.Join
set_option linter.unusedVariables false
set_option linter.unusedSimpArgs false
namespace Go.Proofs.YtiiegpklpmogmaaGreatDoor

/-- A time's three numbers. -/
structure Tm where
  a : Int
  b : Int
  c : Int
deriving DecidableEq

def tmCells (t : Tm) : List Value := [.int .u64 t.a, .int .u64 t.b, .int .u64 t.c]
def tmV (t : Tm) : Value := .agg #[.int .u64 t.a, .int .u64 t.b, .int .u64 t.c]
def Tm.ok (t : Tm) : Prop := (0 ≤ t.a ∧ t.a < 18446744073709551616) ∧ (0 ≤ t.b ∧ t.b < 18446744073709551616) ∧ (0 ≤ t.c ∧ t.c < 18446744073709551616)

def aheadB (x y : Tm) : Bool := decide (x.a ≤ y.a) && decide (x.b ≤ y.b) && decide (x.c ≤ y.c)
def cmp1 (x y : Int) : Int := if x < y then -1 else if x > y then 1 else 0
def cmpV (x y : Tm) : Int := if cmp1 x.a y.a ≠ 0 then cmp1 x.a y.a else if cmp1 x.b y.b ≠ 0 then cmp1 x.b y.b else cmp1 x.c y.c
def joinV (x y : Tm) : Tm := ⟨max x.a y.a, max x.b y.b, max x.c y.c⟩
def meetV (x y : Tm) : Tm := ⟨min x.a y.a, min x.b y.b, min x.c y.c⟩

/-- Fits, by its number. -/
def fitsV (a b c n : Int) : Int := if n < 1 ∨ n > 3 then 10 else if (n ≤ 1 ∧ b ≠ 0) ∨ (n ≤ 2 ∧ c ≠ 0) then 10 else 0

/-! ### Texts -/

/-- A number's digits. -/
def decI (x : Int) : List UInt8 := Lib.decDigits x.toNat
def nums (t : Tm) : List Int := [t.a, t.b, t.c]
/-- The text of the first n numbers. -/
def textV (t : Tm) (n : Nat) : List UInt8 := Lib.join (((nums t).take n).map decI) [46]

theorem decI_length (x : Int) (h : x < 18446744073709551616) : (decI x).length ≤ 20 := by
  unfold decI
  rw [Lib.decDigits_length]
  by_cases h1 : 1 ≤ x.toNat
  · have := Lib.numDigits_eq x.toNat h1 (by omega); split at this <;> omega
  · have : x.toNat = 0 := by omega
    rw [this, Lib.nDigits_small (by omega)]
    omega
end Go.Proofs.YtiiegpklpmogmaaGreatDoor
