/- StampLeast: the walk, as the row asks it. -/
import Derived.Test.YtiiegpklpmogmaaDoorStLeast
set_option linter.unusedVariables false
namespace Go.Proofs.YtiiegpklpmogmaaDoor
open Go.RowKit
theorem least_row (A : Option Addr) (n c : Nat) (xs : List Tm) (t : Tm) (w : World) (hg : Glob w) (ht : t.ok) (h : Rd tmR w (fun _ => True) A n c xs) (hnil : A = none → c = 0) (hx : ∀ x ∈ xs, x.ok) (hn : n ≤ 1048576) :
    Calls Tryd.prog 4 #[.slice A n c, tmV t] w fun e w' => e = .returned (.bool true) ∧ Below w.heap.size w w' :=
  least_at A n c xs t (fun _ => True) w hg h hnil hn
end Go.Proofs.YtiiegpklpmogmaaDoor
