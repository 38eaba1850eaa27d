/- stamp.all, stamp.Ahead, walked. -/
import Derived.Test.YtiiegpklpmogmaaGreatDoorSt1
set_option linter.unusedVariables false
set_option linter.unusedSimpArgs false
namespace Go.Proofs.YtiiegpklpmogmaaGreatDoor
open Go.RowKit

set_option maxHeartbeats 2000000 in
set_option maxRecDepth 8000 in
theorem all_at (x y : Tm) (w : World) :
    Calls Tryz.prog 62 #[tmV x, tmV y, .func (.func 63) #[] #[]] w fun e w' => e = .returned (.bool (aheadB x y)) ∧ Below w.heap.size w w' := by
  obtain ⟨a, b, c⟩ := x
  obtain ⟨d, f, g⟩ := y
  have i0 : ∀ w : World, (Instr.index 81 (.agg #[.int .u64 a, .int .u64 b, .int .u64 c]) (.int .i64 0)).run Tryz.prog w = .ok (.int .u64 a) w := fun _ => by kernel_rfl
  have i1 : ∀ w : World, (Instr.index 81 (.agg #[.int .u64 a, .int .u64 b, .int .u64 c]) (.int .i64 1)).run Tryz.prog w = .ok (.int .u64 b) w := fun _ => by kernel_rfl
  have i2 : ∀ w : World, (Instr.index 81 (.agg #[.int .u64 a, .int .u64 b, .int .u64 c]) (.int .i64 2)).run Tryz.prog w = .ok (.int .u64 c) w := fun _ => by kernel_rfl
  by_cases h1 : a ≤ d
  · by_cases h2 : b ≤ f
    · by_cases h3 : c ≤ g
      · have e : aheadB ⟨a, b, c⟩ ⟨d, f, g⟩ = true := by simp [aheadB, h1, h2, h3]
        rw [e]; clear e
        have t1 : decide (a ≤ d) = true := by simpa using h1
        have t2 : decide (b ≤ f) = true := by simpa using h2
        have t3 : decide (c ≤ g) = true := by simpa using h3
        clear h1 h2 h3
        simp only [tmV]
        go_enter Tryz.func62, Tryz.ntmps62
        go_wp2_with (first | (go_at_call 65; (with_reducible refine (numbers_at d f g _).mono ?_); rintro e w1 ⟨rfl, hb1⟩; obtain ⟨hc1, hf1⟩ := Bel.cells hb1; have hz1 : w.heap.size + 1 < w1.heap.size := (by have := hb1.size; simp at this; omega); have hy1 : w.heap.size < w1.heap.size := (by omega)) | (go_at_call 65; (with_reducible refine (numbers_at a b c _).mono ?_); rintro e w2 ⟨rfl, hb2⟩; obtain ⟨hc2, hf2⟩ := Bel.cells hb2; have hz2 : w1.heap.size < w2.heap.size := (by have := hb2.size; simp at this; omega)))
        refine wp_loop_rounds 4 ?_
        iterate 4 (rw [rounds_succ]; go_wp2_with (go_at_call 63; refine (ahead1_at _ _ _).mono ?_; rintro e w3 ⟨rfl, rfl⟩))
        go_ret
        exact ⟨rfl, by (repeat first | exact Below.refl _ _ | assumption | refine Bel.alloc' ?_ _ | refine Bel.drewN ?_ _ | refine Below.drew ?_ | refine Bel.step' ?_ (by assumption))⟩
      · have e : aheadB ⟨a, b, c⟩ ⟨d, f, g⟩ = false := by simp [aheadB, h1, h2, h3]
        rw [e]; clear e
        have t1 : decide (a ≤ d) = true := by simpa using h1
        have t2 : decide (b ≤ f) = true := by simpa using h2
        have t3 : decide (c ≤ g) = false := by simpa using h3
        clear h1 h2 h3
        simp only [tmV]
        go_enter Tryz.func62, Tryz.ntmps62
        go_wp2_with (first | (go_at_call 65; (with_reducible refine (numbers_at d f g _).mono ?_); rintro e w1 ⟨rfl, hb1⟩; obtain ⟨hc1, hf1⟩ := Bel.cells hb1; have hz1 : w.heap.size + 1 < w1.heap.size := (by have := hb1.size; simp at this; omega); have hy1 : w.heap.size < w1.heap.size := (by omega)) | (go_at_call 65; (with_reducible refine (numbers_at a b c _).mono ?_); rintro e w2 ⟨rfl, hb2⟩; obtain ⟨hc2, hf2⟩ := Bel.cells hb2; have hz2 : w1.heap.size < w2.heap.size := (by have := hb2.size; simp at this; omega)))
        refine wp_loop_rounds 4 ?_
        iterate 3 (rw [rounds_succ]; go_wp2_with (go_at_call 63; refine (ahead1_at _ _ _).mono ?_; rintro e w3 ⟨rfl, rfl⟩))
        go_ret
        exact ⟨rfl, by (repeat first | exact Below.refl _ _ | assumption | refine Bel.alloc' ?_ _ | refine Bel.drewN ?_ _ | refine Below.drew ?_ | refine Bel.step' ?_ (by assumption))⟩
    · have e : aheadB ⟨a, b, c⟩ ⟨d, f, g⟩ = false := by simp [aheadB, h1, h2]
      rw [e]; clear e
      have t1 : decide (a ≤ d) = true := by simpa using h1
      have t2 : decide (b ≤ f) = false := by simpa using h2
      clear h1 h2
      simp only [tmV]
      go_enter Tryz.func62, Tryz.ntmps62
      go_wp2_with (first | (go_at_call 65; (with_reducible refine (numbers_at d f g _).mono ?_); rintro e w1 ⟨rfl, hb1⟩; obtain ⟨hc1, hf1⟩ := Bel.cells hb1; have hz1 : w.heap.size + 1 < w1.heap.size := (by have := hb1.size; simp at this; omega); have hy1 : w.heap.size < w1.heap.size := (by omega)) | (go_at_call 65; (with_reducible refine (numbers_at a b c _).mono ?_); rintro e w2 ⟨rfl, hb2⟩; obtain ⟨hc2, hf2⟩ := Bel.cells hb2; have hz2 : w1.heap.size < w2.heap.size := (by have := hb2.size; simp at this; omega)))
      refine wp_loop_rounds 4 ?_
      iterate 2 (rw [rounds_succ]; go_wp2_with (go_at_call 63; refine (ahead1_at _ _ _).mono ?_; rintro e w3 ⟨rfl, rfl⟩))
      go_ret
      exact ⟨rfl, by (repeat first | exact Below.refl _ _ | assumption | refine Bel.alloc' ?_ _ | refine Bel.drewN ?_ _ | refine Below.drew ?_ | refine Bel.step' ?_ (by assumption))⟩
  · have e : aheadB ⟨a, b, c⟩ ⟨d, f, g⟩ = false := by simp [aheadB, h1]
    rw [e]; clear e
    have t1 : decide (a ≤ d) = false := by simpa using h1
    clear h1
    simp only [tmV]
    go_enter Tryz.func62, Tryz.ntmps62
    go_wp2_with (first | (go_at_call 65; (with_reducible refine (numbers_at d f g _).mono ?_); rintro e w1 ⟨rfl, hb1⟩; obtain ⟨hc1, hf1⟩ := Bel.cells hb1; have hz1 : w.heap.size + 1 < w1.heap.size := (by have := hb1.size; simp at this; omega); have hy1 : w.heap.size < w1.heap.size := (by omega)) | (go_at_call 65; (with_reducible refine (numbers_at a b c _).mono ?_); rintro e w2 ⟨rfl, hb2⟩; obtain ⟨hc2, hf2⟩ := Bel.cells hb2; have hz2 : w1.heap.size < w2.heap.size := (by have := hb2.size; simp at this; omega)))
    refine wp_loop_rounds 4 ?_
    iterate 1 (rw [rounds_succ]; go_wp2_with (go_at_call 63; refine (ahead1_at _ _ _).mono ?_; rintro e w3 ⟨rfl, rfl⟩))
    go_ret
    exact ⟨rfl, by (repeat first | exact Below.refl _ _ | assumption | refine Bel.alloc' ?_ _ | refine Bel.drewN ?_ _ | refine Below.drew ?_ | refine Bel.step' ?_ (by assumption))⟩

set_option maxHeartbeats 1000000 in
/-- stamp.Ahead. -/
theorem ahead_at (x y : Tm) (w : World) : Calls Tryz.prog 21 #[tmV x, tmV y] w fun e w' => e = .returned (.bool (aheadB x y)) ∧ Below w.heap.size w w' := by
  have CA := Lib.hid (all_at x y)
  obtain ⟨a, b, c⟩ := x
  obtain ⟨d, f, g⟩ := y
  simp only [tmV] at CA ⊢
  go_enter Tryz.func21, Tryz.ntmps21
  go_wp2_with (go_at_call 62; refine (CA.out _).mono ?_; rintro e w1 ⟨rfl, hb1⟩)
  go_ret
  exact ⟨rfl, by (repeat first | exact Below.refl _ _ | assumption | refine Bel.alloc' ?_ _ | refine Bel.drewN ?_ _ | refine Below.drew ?_ | refine Bel.step' ?_ (by assumption))⟩
end Go.Proofs.YtiiegpklpmogmaaGreatDoor
