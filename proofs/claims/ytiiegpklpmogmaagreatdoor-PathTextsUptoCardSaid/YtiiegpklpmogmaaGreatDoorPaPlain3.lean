/- The least of any paths, in plain Lean. No program in sight. -/
import Derived.Test.YtiiegpklpmogmaaGreatDoorPaPlain
import Derived.Test.YtiiegpklpmogmaaGreatDoorStPlain4
set_option linter.unusedVariables false
set_option linter.unusedSimpArgs false
namespace Go.Proofs.YtiiegpklpmogmaaGreatDoor

/-- Is q another one, at or ahead of p? -/
def beatsB (p q : Tm) : Bool := !decide (q = p) && aheadB q p
def beatV (l : List Tm) (p : Tm) : Bool := l.any (beatsB p)
/-- Does a list hold it? -/
def hasB (xs : List Tm) (t : Tm) : Bool := decide (t ∈ xs)
def leastStep (l acc : List Tm) (p : Tm) : List Tm := if beatV l p || hasB acc p then acc else acc ++ [p]
def rawLeast (l : List Tm) : List Tm := l.foldl (leastStep l) []
def leastV (l : List Tm) : List Tm := sortV (rawLeast l)

theorem beat_iff (l : List Tm) (p : Tm) : beatV l p = true ↔ ∃ q ∈ l, q ≠ p ∧ aheadB q p = true := by
  unfold beatV beatsB
  simp [List.any_eq_true]

structure LsInv (l done acc : List Tm) : Prop where
  mem : ∀ p, p ∈ acc ↔ p ∈ done ∧ beatV l p = false
  nodup : acc.Nodup
theorem LsInv.step {l done acc : List Tm} (h : LsInv l done acc) (p : Tm) : LsInv l (done ++ [p]) (leastStep l acc p) := by
  unfold leastStep
  by_cases hb : beatV l p = true
  · rw [hb, Bool.true_or, if_pos rfl]
    refine ⟨fun q => ?_, h.nodup⟩
    rw [h.mem, List.mem_append, List.mem_singleton]
    constructor
    · rintro ⟨h1, h2⟩; exact ⟨.inl h1, h2⟩
    · rintro ⟨h1 | rfl, h2⟩
      · exact ⟨h1, h2⟩
      · rw [hb] at h2; cases h2
  · have hb' : beatV l p = false := by simpa using hb
    rw [hb', Bool.false_or]
    unfold hasB
    by_cases hm : p ∈ acc
    · rw [if_pos (decide_eq_true hm)]
      refine ⟨fun q => ?_, h.nodup⟩
      rw [h.mem, List.mem_append, List.mem_singleton]
      constructor
      · rintro ⟨h1, h2⟩; exact ⟨.inl h1, h2⟩
      · rintro ⟨h1 | rfl, h2⟩
        · exact ⟨h1, h2⟩
        · exact (h.mem q).1 hm
    · rw [if_neg (by simpa using hm)]
      refine ⟨fun q => ?_, ?_⟩
      · rw [List.mem_append, List.mem_append, List.mem_singleton, h.mem]
        constructor
        · rintro (⟨h1, h2⟩ | rfl)
          · exact ⟨.inl h1, h2⟩
          · exact ⟨.inr rfl, hb'⟩
        · rintro ⟨h1 | rfl, h2⟩
          · exact .inl ⟨h1, h2⟩
          · exact .inr rfl
      · rw [List.nodup_append]
        refine ⟨h.nodup, by simp, fun a ha b hb => ?_⟩
        simp only [List.mem_singleton] at hb
        subst hb
        intro e; subst e; exact hm ha
theorem LsInv.fold {l : List Tm} : ∀ (s done acc : List Tm), LsInv l done acc → LsInv l (done ++ s) (s.foldl (leastStep l) acc)
  | [], done, acc, h => by simpa using h
  | p :: s, done, acc, h => by
    have := LsInv.fold s _ _ (h.step p)
    simpa using this
theorem raw_inv (l : List Tm) : LsInv l l (rawLeast l) := by
  have := LsInv.fold (l := l) l [] [] ⟨fun p => by simp, List.nodup_nil⟩
  rw [List.nil_append] at this
  exact this
theorem least_mem (l : List Tm) (p : Tm) : p ∈ leastV l ↔ p ∈ l ∧ beatV l p = false := by
  unfold leastV
  rw [(sortV_perm _).mem_iff]
  exact (raw_inv l).mem p
theorem least_nodup (l : List Tm) : (leastV l).Nodup := (sortV_perm _).nodup_iff.2 (raw_inv l).nodup
/-- Told in order. -/
theorem least_strict (l : List Tm) : Strict (leastV l) := by
  have h1 : Rising (leastV l) := sortV_rising _
  have h2 := least_nodup l
  unfold Strict Rising at *
  have := List.Pairwise.and h1 h2
  refine this.imp fun {a b} h => ?_
  rcases lt_total a b with e | e | e
  · exact absurd e h.2
  · exact e
  · rw [h.1] at e; cases e
theorem raw_length (l : List Tm) : (rawLeast l).length ≤ l.length := by
  have key : ∀ (s acc : List Tm), (s.foldl (leastStep l) acc).length ≤ acc.length + s.length := by
    intro s
    induction s with
    | nil => intro acc; simp
    | cons p s ih =>
      intro acc
      have := ih (leastStep l acc p)
      have h2 : (leastStep l acc p).length ≤ acc.length + 1 := by unfold leastStep; split <;> simp
      simp only [List.foldl_cons, List.length_cons]
      omega
  have := key l []
  simpa [rawLeast] using this
theorem leastV_length (l : List Tm) : (leastV l).length ≤ l.length := by
  unfold leastV
  rw [sortV_length]
  exact raw_length l
end Go.Proofs.YtiiegpklpmogmaaGreatDoor
