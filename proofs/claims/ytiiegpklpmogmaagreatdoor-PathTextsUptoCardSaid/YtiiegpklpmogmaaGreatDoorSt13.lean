/- slices.SortFunc at times, off the shelf. -/
import Derived.Test.YtiiegpklpmogmaaGreatDoorSt12
import Derived.Test.YtiiegpklpmogmaaGreatDoorStPlain3
set_option linter.unusedVariables false
set_option linter.unusedSimpArgs false
namespace Go.Proofs.YtiiegpklpmogmaaGreatDoor
open Go.RowKit Go.Sort Go.Shelf



theorem cmp_lays (blk off size : Nat) (w : World) : CmpLays Tryz.prog 23 #[] tmCells 3 cmpV blk off size w :=
  fun _ _ _ _ x y => (compare_d x y _).mono fun _ _ ⟨he, hb⟩ => ⟨he, hb.laid⟩

theorem sort_at (blk off cap : Nat) (d : Array Tm) (w : World) (hH : HoldsK tmCells 3 w blk off d) (hblk : blk < w.heap.size) (hsz : d.size < 4611686018427387904) :
    Calls Tryz.prog 58 #[.slice (some ⟨blk, off, none⟩) d.size cap, .func (.func 23) #[] #[]] w fun e w' => e = .returned (.tuple #[]) ∧ ∃ d' n os, PermIn 0 d.size d d' ∧ SortedIn (ltOf cmpV) 0 d.size d' ∧ w' = sortWorldK tmCells 3 w blk off n d' os :=
  AnyQ.slices_SortFunc Tryz.sortTm 3 Tryz.isAgg25 Tryz.sizeOf25 tmCells (fun _ => rfl) (fun x v hv => by simp [tmCells] at hv; rcases hv with rfl | rfl | rfl <;> rfl) cmpV ltV_swo 23 #[] blk off cap d w (enters_of Tryz.func23 (by kernel_rfl) rfl) (cmp_lays blk off d.size w) hH hblk hsz
end Go.Proofs.YtiiegpklpmogmaaGreatDoor
