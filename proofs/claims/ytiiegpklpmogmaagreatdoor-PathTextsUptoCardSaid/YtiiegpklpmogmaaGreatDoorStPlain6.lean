/- The orders' laws, in plain Lean. No program in sight. -/
import Derived.Test.YtiiegpklpmogmaaGreatDoorStPlain4
set_option linter.unusedVariables false
set_option linter.unusedSimpArgs false
namespace Go.Proofs.YtiiegpklpmogmaaGreatDoor

theorem ahead_both (a b : Tm) : (aheadB a b && aheadB b a) = decide (a = b) := by
  obtain ⟨p, q, r⟩ := a
  obtain ⟨x, y, z⟩ := b
  unfold aheadB
  rw [Bool.eq_iff_iff]
  simp only [Bool.and_eq_true, decide_eq_true_eq, Tm.mk.injEq]
  omega
theorem cmp_anti (a b : Tm) : cmpV a b = - cmpV b a := by
  unfold cmpV cmp1
  repeat' split
  all_goals omega
theorem cmp_zero (a b : Tm) : decide (cmpV a b = 0) = decide (a = b) := by
  obtain ⟨p, q, r⟩ := a
  obtain ⟨x, y, z⟩ := b
  rw [decide_eq_decide]
  simp only [Tm.mk.injEq]
  unfold cmpV cmp1
  dsimp only
  repeat' split
  all_goals omega
theorem ahead_cmp {a b : Tm} (h : aheadB a b = true) : cmpV a b ≤ 0 := by
  rcases ahead_lt h with rfl | h
  · have := (cmpV_gt a a).1
    rw [lt_irrefl] at this
    by_cases hc : 0 < cmpV a a
    · cases this hc
    · omega
  · have := (cmpV_lt a b).2 h
    omega
theorem cmp_trans {a b c : Tm} (h : cmpV a b ≤ 0) (h' : cmpV b c ≤ 0) : cmpV a c ≤ 0 := by
  have f : ∀ x y : Tm, cmpV x y ≤ 0 ↔ ltV y x = false := fun x y => by
    have := cmpV_gt x y
    cases hh : ltV y x with
    | true => rw [hh] at this; have := this.2 rfl; simp; omega
    | false =>
      rw [hh] at this
      simp at this ⊢
      exact this
  rw [f] at *
  exact nlt_trans h h'
theorem ahead_joinl (a b : Tm) : aheadB a (joinV a b) = true := by
  unfold aheadB joinV; simp only [Bool.and_eq_true, decide_eq_true_eq]; omega
theorem ahead_joinr (a b : Tm) : aheadB b (joinV a b) = true := by
  unfold aheadB joinV; simp only [Bool.and_eq_true, decide_eq_true_eq]; omega
theorem ahead_meetl (a b : Tm) : aheadB (meetV a b) a = true := by
  unfold aheadB meetV; simp only [Bool.and_eq_true, decide_eq_true_eq]; omega
theorem ahead_meetr (a b : Tm) : aheadB (meetV a b) b = true := by
  unfold aheadB meetV; simp only [Bool.and_eq_true, decide_eq_true_eq]; omega
theorem join_ahead (a b c : Tm) : (aheadB a c && aheadB b c) = aheadB (joinV a b) c := by
  unfold aheadB joinV
  rw [Bool.eq_iff_iff]
  simp only [Bool.and_eq_true, decide_eq_true_eq]
  omega
theorem meet_ahead (a b c : Tm) : (aheadB c a && aheadB c b) = aheadB c (meetV a b) := by
  unfold aheadB meetV
  rw [Bool.eq_iff_iff]
  simp only [Bool.and_eq_true, decide_eq_true_eq]
  omega
theorem ahead_join (a b : Tm) : aheadB a b = decide (joinV a b = b) := by
  obtain ⟨p, q, r⟩ := a
  obtain ⟨x, y, z⟩ := b
  unfold aheadB joinV
  rw [Bool.eq_iff_iff]
  simp only [Bool.and_eq_true, decide_eq_true_eq, Tm.mk.injEq]
  omega
theorem ahead_meet (a b : Tm) : aheadB a b = decide (meetV a b = a) := by
  obtain ⟨p, q, r⟩ := a
  obtain ⟨x, y, z⟩ := b
  unfold aheadB meetV
  rw [Bool.eq_iff_iff]
  simp only [Bool.and_eq_true, decide_eq_true_eq, Tm.mk.injEq]
  omega
theorem joinV_ok {a b : Tm} (ha : a.ok) (hb : b.ok) : (joinV a b).ok := by
  obtain ⟨⟨a1, a2⟩, ⟨a3, a4⟩, ⟨a5, a6⟩⟩ := ha
  obtain ⟨⟨b1, b2⟩, ⟨b3, b4⟩, ⟨b5, b6⟩⟩ := hb
  unfold Tm.ok joinV
  simp only
  omega
theorem meetV_ok {a b : Tm} (ha : a.ok) (hb : b.ok) : (meetV a b).ok := by
  obtain ⟨⟨a1, a2⟩, ⟨a3, a4⟩, ⟨a5, a6⟩⟩ := ha
  obtain ⟨⟨b1, b2⟩, ⟨b3, b4⟩, ⟨b5, b6⟩⟩ := hb
  unfold Tm.ok meetV
  simp only
  omega
end Go.Proofs.YtiiegpklpmogmaaGreatDoor
