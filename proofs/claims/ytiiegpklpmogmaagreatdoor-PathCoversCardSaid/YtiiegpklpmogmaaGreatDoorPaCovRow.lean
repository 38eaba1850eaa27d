/- PathCovers: the walk, as the row asks it. -/
import Derived.Test.YtiiegpklpmogmaaGreatDoorPaCov2
set_option linter.unusedVariables false
namespace Go.Proofs.YtiiegpklpmogmaaGreatDoor
open Go.RowKit
theorem covers_row (A : Option Addr) (n c : Nat) (xs : List Tm) (w : World) (hg : Glob w) (h : Rd tmR w (fun _ => True) A n c xs) (hnil : A = none → c = 0) (hx : ∀ x ∈ xs, x.ok) (hn : n * 24 ≤ 140737488355328) :
    Calls Tryz.prog 10 #[.slice A n c] w fun e w' => e = .returned (.bool true) ∧ Below w.heap.size w w' :=
  covers_at A n c xs (fun _ => True) w hg h hn
end Go.Proofs.YtiiegpklpmogmaaGreatDoor
