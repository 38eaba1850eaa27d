/- Sums of paths in plain Lean. No program in sight. -/
import Derived.Test.YtiiegpklpmogmaaGreatDoorStPlain
import Derived.Test.YtiiegpklpmogmaaGreatDoorStPlain2
import Derived.Test.YtiiegpklpmogmaaGreatDoorStPlain6
set_option linter.unusedVariables false
set_option linter.unusedSimpArgs false
namespace Go.Proofs.YtiiegpklpmogmaaGreatDoor

/-- One more than the greatest number. -/
def M64 : Int := 18446744073709551616
/-- A sum's low number. -/
def lo (x y : Int) : Int := if x + y < M64 then x + y else x + y - M64
/-- Its carry. -/
def cr (x y : Int) : Int := if x + y < M64 then 0 else 1
def fitsB (x y : Tm) : Bool := decide (x.a + y.a < M64) && (decide (x.b + y.b < M64) && decide (x.c + y.c < M64))
def addV (x y : Tm) : Tm := ⟨x.a + y.a, x.b + y.b, x.c + y.c⟩
def sumT (x y : Tm) : Tm := if fitsB x y then addV x y else tm0

theorem cr_cases (x y : Int) : (x + y < M64 ∧ lo x y = x + y ∧ cr x y = 0) ∨ (¬ x + y < M64 ∧ cr x y = 1) := by
  unfold lo cr
  by_cases h : x + y < M64
  · exact .inl ⟨h, if_pos h, if_pos h⟩
  · exact .inr ⟨h, if_neg h⟩
theorem tm_ok_pos {t : Tm} (h : t.ok) : 0 ≤ t.a ∧ 0 ≤ t.b ∧ 0 ≤ t.c := ⟨h.1.1, h.2.1.1, h.2.2.1⟩
theorem sumT_ok {x y : Tm} (hx : x.ok) (hy : y.ok) : (sumT x y).ok := by
  unfold sumT
  split
  · rename_i h
    unfold fitsB M64 at h
    simp only [Bool.and_eq_true, decide_eq_true_eq] at h
    obtain ⟨⟨x1, _⟩, ⟨x3, _⟩, ⟨x5, _⟩⟩ := hx
    obtain ⟨⟨y1, _⟩, ⟨y3, _⟩, ⟨y5, _⟩⟩ := hy
    unfold Tm.ok addV
    simp only
    omega
  · unfold Tm.ok tm0; simp
theorem sum_comm (x y : Tm) : sumT x y = sumT y x ∧ fitsB x y = fitsB y x := by
  have h1 : fitsB x y = fitsB y x := by unfold fitsB; simp only [Int.add_comm]
  refine ⟨?_, h1⟩
  unfold sumT addV
  rw [h1]
  simp only [Int.add_comm]
theorem sum_good {x y : Tm} (h : fitsB x y = true) : sumT x y = addV x y := by unfold sumT; rw [if_pos h]
theorem fitsB_iff (x y : Tm) : fitsB x y = true ↔ x.a + y.a < M64 ∧ x.b + y.b < M64 ∧ x.c + y.c < M64 := by
  unfold fitsB; simp [Bool.and_eq_true, decide_eq_true_eq]
/-- In any grouping. -/
theorem sum_assoc {x y z : Tm} (hx : x.ok) (hy : y.ok) (hz : z.ok) :
    (fitsB (sumT x y) z && fitsB x y) = (fitsB x (sumT y z) && fitsB y z) ∧ ((fitsB (sumT x y) z && fitsB x y) = true → sumT (sumT x y) z = sumT x (sumT y z)) := by
  obtain ⟨⟨x1, _⟩, ⟨x3, _⟩, ⟨x5, _⟩⟩ := hx
  obtain ⟨⟨y1, _⟩, ⟨y3, _⟩, ⟨y5, _⟩⟩ := hy
  obtain ⟨⟨z1, _⟩, ⟨z3, _⟩, ⟨z5, _⟩⟩ := hz
  have key : (fitsB (sumT x y) z && fitsB x y) = true ↔ (fitsB x (sumT y z) && fitsB y z) = true := by
    simp only [Bool.and_eq_true]
    constructor
    · rintro ⟨h1, h2⟩
      rw [sum_good h2] at h1
      rw [fitsB_iff] at h1 h2
      have h3 : fitsB y z = true := by rw [fitsB_iff]; simp only [addV] at h1; omega
      refine ⟨?_, h3⟩
      rw [sum_good h3, fitsB_iff]
      simp only [addV] at *
      omega
    · rintro ⟨h1, h2⟩
      rw [sum_good h2] at h1
      rw [fitsB_iff] at h1 h2
      have h3 : fitsB x y = true := by rw [fitsB_iff]; simp only [addV] at h1; omega
      refine ⟨?_, h3⟩
      rw [sum_good h3, fitsB_iff]
      simp only [addV] at *
      omega
  refine ⟨Bool.eq_iff_iff.2 key, fun h => ?_⟩
  have h' := key.1 h
  simp only [Bool.and_eq_true] at h h'
  rw [sum_good h.1, sum_good h'.1, sum_good h.2, sum_good h'.2]
  unfold addV
  simp only [Int.add_assoc]
theorem sum_zero {x : Tm} (hx : x.ok) : sumT x tm0 = x ∧ fitsB x tm0 = true ∧ sumT tm0 x = x ∧ fitsB tm0 x = true := by
  obtain ⟨⟨x1, x2⟩, ⟨x3, x4⟩, ⟨x5, x6⟩⟩ := hx
  have h1 : fitsB x tm0 = true := by rw [fitsB_iff]; simp only [tm0, M64]; omega
  have h2 : fitsB tm0 x = true := by rw [fitsB_iff]; simp only [tm0, M64]; omega
  refine ⟨?_, h1, ?_, h2⟩
  · rw [sum_good h1]; unfold addV tm0; simp
  · rw [sum_good h2]; unfold addV tm0; simp
/-- No time goes back, and none stays but by the empty path. -/
theorem sum_ahead {p t : Tm} (hp : p.ok) (h : fitsB p t = true) : aheadB t (sumT p t) = true ∧ decide (sumT p t = t) = decide (p = tm0) := by
  obtain ⟨⟨p1, p2⟩, ⟨p3, p4⟩, ⟨p5, p6⟩⟩ := hp
  rw [sum_good h]
  obtain ⟨a, b, c⟩ := p
  obtain ⟨d, f, g⟩ := t
  unfold aheadB addV tm0
  simp only [Bool.and_eq_true, decide_eq_true_eq, decide_eq_decide, Tm.mk.injEq] at *
  omega
/-- Lesser paths make lesser times. -/
theorem sum_rises {p q t u : Tm} (hpq : aheadB p q = true) (htu : aheadB t u = true) (h : fitsB q u = true) : fitsB p t = true ∧ aheadB (sumT p t) (sumT q u) = true := by
  have h' := (fitsB_iff q u).1 h
  unfold aheadB at hpq htu
  simp only [Bool.and_eq_true, decide_eq_true_eq] at hpq htu
  have h2 : fitsB p t = true := by rw [fitsB_iff]; omega
  refine ⟨h2, ?_⟩
  rw [sum_good h, sum_good h2]
  unfold aheadB addV
  simp only [Bool.and_eq_true, decide_eq_true_eq]
  omega
end Go.Proofs.YtiiegpklpmogmaaGreatDoor
