/- stamp.numbers, stamp.made, stamp.all, stamp.Ahead, cmp.Compare, slices.Compare at three numbers, walked. -/
import Derived.Test.YtiiegpklpmogmaaGreatDoorProg
import Derived.Test.YtiiegpklpmogmaaGreatDoorFacts
import Derived.Test.YtiiegpklpmogmaaGreatDoorStPlain
set_option linter.unusedVariables false
set_option linter.unusedSimpArgs false
namespace Go.Proofs.YtiiegpklpmogmaaGreatDoor
open Go.RowKit

set_option maxHeartbeats 400000 in
theorem numbers_at (a b c : Int) (w : World) :
    Calls Tryz.prog 65 #[.agg #[.int .u64 a, .int .u64 b, .int .u64 c]] w fun e w' => e = .returned (.agg #[.int .u64 a, .int .u64 b, .int .u64 c]) ∧ Below w.heap.size w w' := by
  go_enter Tryz.func65, Tryz.ntmps65
  go_wp2
  refine bodyPost_ret (v := .agg #[.int .u64 a, .int .u64 b, .int .u64 c]) (by simp [results, Tryz.results65, go_sem]) rfl ⟨rfl, ?_⟩
  (repeat first | exact Below.refl _ _ | assumption | refine Bel.alloc' ?_ _ | refine Bel.drewN ?_ _ | refine Below.drew ?_ | refine Bel.step' ?_ (by assumption))

set_option maxHeartbeats 400000 in
theorem made_at (a b c : Int) (w : World) :
    Calls Tryz.prog 88 #[.agg #[.int .u64 a, .int .u64 b, .int .u64 c]] w fun e w' => e = .returned (.agg #[.int .u64 a, .int .u64 b, .int .u64 c]) ∧ Below w.heap.size w w' := by
  go_enter Tryz.func88, Tryz.ntmps88
  go_wp2
  refine bodyPost_ret (v := .agg #[.int .u64 a, .int .u64 b, .int .u64 c]) (by simp [results, Tryz.results88, go_sem]) rfl ⟨rfl, ?_⟩
  (repeat first | exact Below.refl _ _ | assumption | refine Bel.alloc' ?_ _ | refine Bel.drewN ?_ _ | refine Below.drew ?_ | refine Bel.step' ?_ (by assumption))

set_option maxHeartbeats 400000 in
theorem ahead1_at (x y : Int) (w : World) : Calls Tryz.prog 63 #[.int .u64 x, .int .u64 y] w fun e w' => e = .returned (.bool (decide (x ≤ y))) ∧ w' = w := by
  go_enter Tryz.func63, Tryz.ntmps63
  go_wp2
  go_ret
  exact ⟨rfl, rfl⟩

set_option maxHeartbeats 400000 in
theorem isNaN_at (x : Int) (w : World) : Calls Tryz.prog 117 #[.int .u64 x] w fun e w' => e = .returned (.bool false) ∧ w' = w := by
  go_enter Tryz.func117, Tryz.ntmps117
  go_wp2
  go_ret
  exact ⟨by simp, rfl⟩

set_option maxHeartbeats 1000000 in
theorem ccmp_at (x y : Int) (w : World) : Calls Tryz.prog 92 #[.int .u64 x, .int .u64 y] w fun e w' => e = .returned (.int .i64 (cmp1 x y)) ∧ w' = w := by
  by_cases h1 : x < y
  · have e : cmp1 x y = -1 := if_pos h1
    rw [e]
    go_enter Tryz.func92, Tryz.ntmps92
    go_wp2_with (go_at_call 117; refine (isNaN_at _ _).mono ?_; rintro e w1 ⟨rfl, rfl⟩)
    go_ret
    exact ⟨rfl, rfl⟩
  · by_cases h2 : x > y
    · have e : cmp1 x y = 1 := by unfold cmp1; rw [if_neg h1, if_pos h2]
      rw [e]
      go_enter Tryz.func92, Tryz.ntmps92
      go_wp2_with (go_at_call 117; refine (isNaN_at _ _).mono ?_; rintro e w1 ⟨rfl, rfl⟩)
      go_ret
      exact ⟨rfl, rfl⟩
    · have e : cmp1 x y = 0 := by unfold cmp1; rw [if_neg h1, if_neg h2]
      rw [e]
      go_enter Tryz.func92, Tryz.ntmps92
      go_wp2_with (go_at_call 117; refine (isNaN_at _ _).mono ?_; rintro e w1 ⟨rfl, rfl⟩)
      go_ret
      exact ⟨rfl, rfl⟩
end Go.Proofs.YtiiegpklpmogmaaGreatDoor
