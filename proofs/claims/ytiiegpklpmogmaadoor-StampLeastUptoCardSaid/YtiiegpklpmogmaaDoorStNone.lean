/- slices.SortFunc at no element, a nil slice too. -/
import Derived.Test.YtiiegpklpmogmaaDoorSt14
import Derived.Shelf.SlSortCmp.NoneTotal
set_option linter.unusedVariables false
namespace Go.Proofs.YtiiegpklpmogmaaDoor
open Go.RowKit Go.Sort Go.Shelf
theorem sort_nil (p : Option Addr) (cap : Nat) (fv : Value) (w : World) : Calls Tryd.prog 31 #[.slice p 0 cap, fv] w fun e w' => e = .returned (.tuple #[]) ∧ w' = w :=
  AnyF.slices_SortFunc_none { Tryd.sortTm with } p cap fv w
end Go.Proofs.YtiiegpklpmogmaaDoor
