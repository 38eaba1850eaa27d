/- The least paths are a front. No program in sight. -/
import Derived.Test.YtiiegpklpmogmaaGreatDoorPaPlain3
set_option linter.unusedVariables false
set_option linter.unusedSimpArgs false
namespace Go.Proofs.YtiiegpklpmogmaaGreatDoor

theorem beat_false (l : List Tm) (t : Tm) : beatV l t = false ↔ ∀ u ∈ l, aheadB u t = true → u = t := by
  rw [← Bool.not_eq_true, beat_iff]
  constructor
  · intro h u hu ha
    by_cases e : u = t
    · exact e
    · exact absurd ⟨u, hu, e, ha⟩ h
  · rintro h ⟨u, hu, hne, ha⟩
    exact hne (h u hu ha)
theorem least_front (l : List Tm) : leastV l = frontV l :=
  strict_eq (least_strict l) (front_strict l) (fun t => by rw [least_mem, front_mem, beat_false])
theorem strict_apart' {fs : List Tm} (h : Strict fs) {i j : Nat} {x y : Tm} (hi : fs[i]? = some x) (hj : fs[j]? = some y) (hne : i ≠ j) : x ≠ y := by
  obtain ⟨hil, hi⟩ := List.getElem?_eq_some_iff.1 hi
  obtain ⟨hjl, hj⟩ := List.getElem?_eq_some_iff.1 hj
  intro e
  subst e
  have hp := List.pairwise_iff_getElem.1 h
  rcases Nat.lt_or_ge i j with hlt | hge
  · have := hp i j hil hjl hlt
    rw [hi, hj, lt_irrefl] at this; cases this
  · have := hp j i hjl hil (by omega)
    rw [hi, hj, lt_irrefl] at this; cases this
theorem least_apart {xs : List Tm} {i j : Nat} {x y : Tm} (hi : (leastV xs)[i]? = some x) (hj : (leastV xs)[j]? = some y) (hne : i ≠ j) : aheadB x y = false := by
  rw [least_front] at hi hj
  cases h : aheadB x y with
  | false => rfl
  | true => exact absurd (front_none (List.mem_of_getElem? hi) (List.mem_of_getElem? hj) h) (strict_apart' (front_strict xs) hi hj hne)
theorem least_rises {xs : List Tm} {i : Nat} {x y : Tm} (hi : (leastV xs)[i]? = some x) (hj : (leastV xs)[i + 1]? = some y) : cmpV x y < 0 := by
  obtain ⟨hil, hi⟩ := List.getElem?_eq_some_iff.1 hi
  obtain ⟨hjl, hj⟩ := List.getElem?_eq_some_iff.1 hj
  have := List.pairwise_iff_getElem.1 (least_strict xs) i (i + 1) hil hjl (by omega)
  rw [hi, hj] at this
  exact (cmpV_lt x y).2 this
theorem least_cov {l : List Tm} {t : Tm} (h : t ∈ l) : openV (leastV l) t = true := by rw [least_front]; exact front_cov h
theorem least_sub {l : List Tm} {t : Tm} (h : t ∈ leastV l) : t ∈ l := ((least_mem l t).1 h).1
theorem least_again (l : List Tm) : leastV (leastV l) = leastV l := by rw [least_front, least_front, front_again]
theorem open_take {ms : List Tm} {j : Nat} {q x : Tm} (h : ms[j]? = some q) : openV (ms.take (j + 1)) x = (openV (ms.take j) x || aheadB q x) := by
  unfold openV
  rw [List.take_add_one, h, List.any_append]
  simp
theorem has_take {xs : List Tm} {k : Nat} {q y : Tm} (h : xs[k]? = some q) : hasB (xs.take (k + 1)) y = (hasB (xs.take k) y || decide (y = q)) := by
  unfold hasB
  rw [List.take_add_one, h]
  by_cases h1 : y ∈ xs.take k
  · simp [h1]
  · by_cases h2 : y = q
    · simp [h2]
    · simp [h1, h2]
end Go.Proofs.YtiiegpklpmogmaaGreatDoor
