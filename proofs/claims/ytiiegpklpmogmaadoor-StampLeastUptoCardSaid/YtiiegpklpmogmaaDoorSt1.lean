/- stamp.numbers, stamp.made, stamp.all, stamp.Ahead, cmp.Compare, slices.Compare at three numbers, walked. -/
import Derived.Test.YtiiegpklpmogmaaDoorProg
import Derived.Test.YtiiegpklpmogmaaDoorFacts
import Derived.Test.YtiiegpklpmogmaaDoorStPlain
set_option linter.unusedVariables false
set_option linter.unusedSimpArgs false
namespace Go.Proofs.YtiiegpklpmogmaaDoor
open Go.RowKit

set_option maxHeartbeats 400000 in
theorem numbers_at (a b c : Int) (w : World) :
    Calls Tryd.prog 20 #[.agg #[.int .u64 a, .int .u64 b, .int .u64 c]] w fun e w' => e = .returned (.agg #[.int .u64 a, .int .u64 b, .int .u64 c]) ∧ Below w.heap.size w w' := by
  go_enter Tryd.func20, Tryd.ntmps20
  go_wp2
  refine bodyPost_ret (v := .agg #[.int .u64 a, .int .u64 b, .int .u64 c]) (by simp [results, Tryd.results20, go_sem]) rfl ⟨rfl, ?_⟩
  (repeat first | exact Below.refl _ _ | assumption | refine Bel.alloc' ?_ _ | refine Bel.drewN ?_ _ | refine Below.drew ?_ | refine Bel.step' ?_ (by assumption))

set_option maxHeartbeats 400000 in
theorem made_at (a b c : Int) (w : World) :
    Calls Tryd.prog 28 #[.agg #[.int .u64 a, .int .u64 b, .int .u64 c]] w fun e w' => e = .returned (.agg #[.int .u64 a, .int .u64 b, .int .u64 c]) ∧ Below w.heap.size w w' := by
  go_enter Tryd.func28, Tryd.ntmps28
  go_wp2
  refine bodyPost_ret (v := .agg #[.int .u64 a, .int .u64 b, .int .u64 c]) (by simp [results, Tryd.results28, go_sem]) rfl ⟨rfl, ?_⟩
  (repeat first | exact Below.refl _ _ | assumption | refine Bel.alloc' ?_ _ | refine Bel.drewN ?_ _ | refine Below.drew ?_ | refine Bel.step' ?_ (by assumption))

set_option maxHeartbeats 400000 in
theorem ahead1_at (x y : Int) (w : World) : Calls Tryd.prog 33 #[.int .u64 x, .int .u64 y] w fun e w' => e = .returned (.bool (decide (x ≤ y))) ∧ w' = w := by
  go_enter Tryd.func33, Tryd.ntmps33
  go_wp2
  go_ret
  exact ⟨rfl, rfl⟩

set_option maxHeartbeats 400000 in
theorem isNaN_at (x : Int) (w : World) : Calls Tryd.prog 76 #[.int .u64 x] w fun e w' => e = .returned (.bool false) ∧ w' = w := by
  go_enter Tryd.func76, Tryd.ntmps76
  go_wp2
  go_ret
  exact ⟨by simp, rfl⟩

set_option maxHeartbeats 1000000 in
theorem ccmp_at (x y : Int) (w : World) : Calls Tryd.prog 49 #[.int .u64 x, .int .u64 y] w fun e w' => e = .returned (.int .i64 (cmp1 x y)) ∧ w' = w := by
  by_cases h1 : x < y
  · have e : cmp1 x y = -1 := if_pos h1
    rw [e]
    go_enter Tryd.func49, Tryd.ntmps49
    go_wp2_with (go_at_call 76; refine (isNaN_at _ _).mono ?_; rintro e w1 ⟨rfl, rfl⟩)
    go_ret
    exact ⟨rfl, rfl⟩
  · by_cases h2 : x > y
    · have e : cmp1 x y = 1 := by unfold cmp1; rw [if_neg h1, if_pos h2]
      rw [e]
      go_enter Tryd.func49, Tryd.ntmps49
      go_wp2_with (go_at_call 76; refine (isNaN_at _ _).mono ?_; rintro e w1 ⟨rfl, rfl⟩)
      go_ret
      exact ⟨rfl, rfl⟩
    · have e : cmp1 x y = 0 := by unfold cmp1; rw [if_neg h1, if_neg h2]
      rw [e]
      go_enter Tryd.func49, Tryd.ntmps49
      go_wp2_with (go_at_call 76; refine (isNaN_at _ _).mono ?_; rintro e w1 ⟨rfl, rfl⟩)
      go_ret
      exact ⟨rfl, rfl⟩
end Go.Proofs.YtiiegpklpmogmaaDoor
