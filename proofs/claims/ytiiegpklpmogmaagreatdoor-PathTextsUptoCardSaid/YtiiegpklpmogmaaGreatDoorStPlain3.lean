/- The order of telling, in plain Lean: it is a whole order. No program in sight. -/
import Derived.Test.YtiiegpklpmogmaaGreatDoorStPlain
import Derived.Shelf.SlSortCmp.WholeK
set_option linter.unusedVariables false
set_option linter.unusedSimpArgs false
namespace Go.Proofs.YtiiegpklpmogmaaGreatDoor
open Go.Sort

/-- Told first: by the first number in which they part. -/
def ltV (x y : Tm) : Bool := decide (x.a < y.a ∨ (x.a = y.a ∧ (x.b < y.b ∨ (x.b = y.b ∧ x.c < y.c))))

theorem cmpV_lt (x y : Tm) : cmpV x y < 0 ↔ ltV x y = true := by
  unfold cmpV cmp1 ltV
  simp only [decide_eq_true_eq]
  repeat' split
  all_goals omega
theorem cmpV_gt (x y : Tm) : 0 < cmpV x y ↔ ltV y x = true := by
  unfold cmpV cmp1 ltV
  simp only [decide_eq_true_eq]
  repeat' split
  all_goals omega
theorem cmpV_le (x y : Tm) : cmpV x y ≤ 1 ∧ -1 ≤ cmpV x y := by
  unfold cmpV cmp1
  repeat' split
  all_goals omega
theorem lt_cmp (x y : Tm) : ltOf cmpV x y = ltV x y := by
  unfold ltOf
  cases h : ltV x y with
  | true => simp [(cmpV_lt x y).2 h]
  | false =>
    have : ¬ cmpV x y < 0 := fun e => by rw [(cmpV_lt x y).1 e] at h; cases h
    simp [this]
theorem ltV_swo : SWO (ltOf cmpV) where
  irrefl x := by rw [lt_cmp]; unfold ltV; simp
  trans x y z h1 h2 := by rw [lt_cmp] at *; unfold ltV at *; simp only [decide_eq_true_eq] at *; omega
  ntrans x y z h1 h2 := by rw [lt_cmp] at *; unfold ltV at *; simp only [decide_eq_false_iff_not] at *; omega
theorem ltV_total (x y : Tm) (h1 : ltOf cmpV x y = false) (h2 : ltOf cmpV y x = false) : x = y := by
  rw [lt_cmp] at *
  unfold ltV at *
  simp only [decide_eq_false_iff_not] at *
  obtain ⟨a, b, c⟩ := x
  obtain ⟨d, e, f⟩ := y
  simp only [Tm.mk.injEq] at *
  omega
end Go.Proofs.YtiiegpklpmogmaaGreatDoor
