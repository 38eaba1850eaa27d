/- slices.SortFunc at no element, a nil slice too. -/
import Derived.Test.YtiiegpklpmogmaaGreatDoorSt14
import Derived.Shelf.SlSortCmp.NoneTotal
set_option linter.unusedVariables false
namespace Go.Proofs.YtiiegpklpmogmaaGreatDoor
open Go.RowKit Go.Sort Go.Shelf
theorem sort_nil (p : Option Addr) (cap : Nat) (fv : Value) (w : World) : Calls Tryz.prog 58 #[.slice p 0 cap, fv] w fun e w' => e = .returned (.tuple #[]) ∧ w' = w :=
  AnyF.slices_SortFunc_none { Tryz.sortTm with } p cap fv w
end Go.Proofs.YtiiegpklpmogmaaGreatDoor
