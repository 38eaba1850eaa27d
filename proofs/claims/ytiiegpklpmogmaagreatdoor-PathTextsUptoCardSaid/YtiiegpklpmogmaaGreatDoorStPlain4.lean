/- Sorting and fronts, in plain Lean. No program in sight. -/
import Derived.Test.YtiiegpklpmogmaaGreatDoorStPlain3
set_option linter.unusedVariables false
set_option linter.unusedSimpArgs false
namespace Go.Proofs.YtiiegpklpmogmaaGreatDoor
open Go.Sort

theorem ahead_refl (x : Tm) : aheadB x x = true := by unfold aheadB; simp
theorem ahead_trans {x y z : Tm} (h : aheadB x y = true) (h' : aheadB y z = true) : aheadB x z = true := by
  unfold aheadB at *
  simp only [Bool.and_eq_true, decide_eq_true_eq] at *
  omega
theorem ahead_anti {x y : Tm} (h : aheadB x y = true) (h' : aheadB y x = true) : x = y := by
  obtain ⟨a, b, c⟩ := x
  obtain ⟨d, e, f⟩ := y
  unfold aheadB at *
  simp only [Bool.and_eq_true, decide_eq_true_eq, Tm.mk.injEq] at *
  omega
theorem ahead_lt {x y : Tm} (h : aheadB x y = true) : x = y ∨ ltV x y = true := by
  obtain ⟨a, b, c⟩ := x
  obtain ⟨d, e, f⟩ := y
  unfold aheadB ltV at *
  simp only [Bool.and_eq_true, decide_eq_true_eq, Tm.mk.injEq] at *
  omega
theorem lt_total (x y : Tm) : x = y ∨ ltV x y = true ∨ ltV y x = true := by
  obtain ⟨a, b, c⟩ := x
  obtain ⟨d, e, f⟩ := y
  unfold ltV
  simp only [decide_eq_true_eq, Tm.mk.injEq]
  omega
theorem lt_irrefl (x : Tm) : ltV x x = false := by unfold ltV; simp
theorem lt_trans' {x y z : Tm} (h : ltV x y = true) (h' : ltV y z = true) : ltV x z = true := by
  unfold ltV at *
  simp only [decide_eq_true_eq] at *
  omega
theorem lt_asymm {x y : Tm} (h : ltV x y = true) : ltV y x = false := by
  cases e : ltV y x with
  | false => rfl
  | true => have := lt_trans' h e; rw [lt_irrefl] at this; cases this
theorem nlt_trans {x y z : Tm} (h : ltV y x = false) (h' : ltV z y = false) : ltV z x = false := by
  unfold ltV at *
  simp only [decide_eq_false_iff_not] at *
  omega

/-! ### Sorting -/
instance : Inhabited Tm := ⟨⟨0, 0, 0⟩⟩
/-- Put where it belongs. -/
def insV (x : Tm) : List Tm → List Tm
  | [] => [x]
  | y :: ys => if ltV y x then y :: insV x ys else x :: y :: ys
def sortV : List Tm → List Tm
  | [] => []
  | x :: xs => insV x (sortV xs)
def Rising (l : List Tm) : Prop := l.Pairwise fun a b => ltV b a = false

theorem insV_perm (x : Tm) (ys : List Tm) : (insV x ys).Perm (x :: ys) := by
  induction ys with
  | nil => exact List.Perm.refl _
  | cons y ys ih =>
    unfold insV
    split
    · exact (List.Perm.cons y ih).trans (List.Perm.swap x y ys)
    · exact List.Perm.refl _
theorem sortV_perm (l : List Tm) : (sortV l).Perm l := by
  induction l with
  | nil => exact List.Perm.refl _
  | cons x xs ih => exact (insV_perm x _).trans (List.Perm.cons x ih)
theorem insV_rising (x : Tm) (ys : List Tm) (h : Rising ys) : Rising (insV x ys) := by
  induction ys with
  | nil => simp [insV, Rising]
  | cons y ys ih =>
    have h1 := List.pairwise_cons.1 h
    unfold insV
    split
    · rename_i hl
      refine List.pairwise_cons.2 ⟨fun z hz => ?_, ih h1.2⟩
      rcases List.mem_cons.1 ((insV_perm x ys).mem_iff.1 hz) with rfl | hz
      · exact lt_asymm hl
      · exact h1.1 z hz
    · rename_i hl
      have hl' : ltV y x = false := by simpa using hl
      refine List.pairwise_cons.2 ⟨fun z hz => ?_, h⟩
      rcases List.mem_cons.1 hz with rfl | hz
      · exact hl'
      · exact nlt_trans hl' (h1.1 z hz)
theorem sortV_rising (l : List Tm) : Rising (sortV l) := by
  induction l with
  | nil => exact List.Pairwise.nil
  | cons x xs ih => exact insV_rising x _ ih
theorem rising_eq {xs ys : List Tm} (hp : xs.Perm ys) (hx : Rising xs) (hy : Rising ys) : xs = ys := by
  induction xs generalizing ys with
  | nil => exact (List.nil_perm.1 hp).symm
  | cons x xs ih =>
    cases ys with
    | nil => exact absurd hp.length_eq (by simp)
    | cons y ys =>
      have h1 := List.pairwise_cons.1 hx
      have h2 := List.pairwise_cons.1 hy
      have hxy : x = y := by
        rcases List.mem_cons.1 (hp.mem_iff.1 List.mem_cons_self) with e | hm
        · exact e
        · rcases List.mem_cons.1 (hp.mem_iff.2 (List.mem_cons_self (a := y) (l := ys))) with e | hm'
          · exact e.symm
          · have a1 := h1.1 y hm'
            have a2 := h2.1 x hm
            rcases lt_total x y with e | e | e
            · exact e
            · rw [e] at a2; cases a2
            · rw [e] at a1; cases a1
      subst hxy
      rw [ih ((List.perm_cons x).1 hp) h1.2 h2.2]
theorem sorted_is {d d' : Array Tm} (hp : PermIn 0 d.size d d') (hs : SortedIn (ltOf cmpV) 0 d.size d') : d' = (sortV d.toList).toArray := by
  have hsz : d'.size = d.size := hp.1
  have h1 : d'.toList.Perm d.toList := by
    have h := hp.2.2
    rw [Array.extract_size, ← hsz, Array.extract_size] at h
    exact h
  have h2 : Rising d'.toList := by
    refine List.pairwise_iff_getElem.2 fun i j hi hj hij => ?_
    have := hs i j (Nat.zero_le _) hij (by simpa [hsz] using hj)
    rw [lt_cmp] at this
    have e1 : d'[i]! = d'.toList[i] := by simp at hi; simp [hi]
    have e2 : d'[j]! = d'.toList[j] := by simp at hj; simp [hj]
    rw [e1, e2] at this
    exact this
  have h3 := rising_eq (h1.trans (sortV_perm d.toList).symm) h2 (sortV_rising _)
  rw [← h3]

/-! ### Fronts -/
def openV (l : List Tm) (t : Tm) : Bool := l.any fun u => aheadB u t
def frontStep (acc : List Tm) (t : Tm) : List Tm := if openV acc t then acc else acc ++ [t]
def frontV (l : List Tm) : List Tm := (sortV l).foldl frontStep []
def Strict (l : List Tm) : Prop := l.Pairwise fun a b => ltV a b = true

theorem open_iff (l : List Tm) (t : Tm) : openV l t = true ↔ ∃ u ∈ l, aheadB u t = true := by unfold openV; simp [List.any_eq_true]

structure FrInv (p acc : List Tm) : Prop where
  sub : ∀ t ∈ acc, t ∈ p
  cov : ∀ t ∈ p, openV acc t = true
  str : acc.Pairwise fun a b => ltV a b = true ∧ aheadB a b = false

theorem FrInv.step {p acc : List Tm} (h : FrInv p acc) (t : Tm) (ht : ∀ u ∈ p, ltV t u = false) : FrInv (p ++ [t]) (frontStep acc t) := by
  unfold frontStep
  split
  · rename_i ho
    refine ⟨fun u hu => List.mem_append_left _ (h.sub u hu), fun u hu => ?_, h.str⟩
    rcases List.mem_append.1 hu with hu | hu
    · exact h.cov u hu
    · simp at hu; subst hu; exact ho
  · rename_i ho
    refine ⟨fun u hu => ?_, fun u hu => ?_, ?_⟩
    · rcases List.mem_append.1 hu with hu | hu
      · exact List.mem_append_left _ (h.sub u hu)
      · exact List.mem_append_right _ hu
    · rcases List.mem_append.1 hu with hu | hu
      · obtain ⟨v, hv, ha⟩ := (open_iff _ _).1 (h.cov u hu)
        exact (open_iff _ _).2 ⟨v, List.mem_append_left _ hv, ha⟩
      · simp at hu; subst hu
        exact (open_iff _ _).2 ⟨u, by simp, ahead_refl u⟩
    · refine List.pairwise_append.2 ⟨h.str, by simp, fun a ha b hb => ?_⟩
      simp at hb; subst hb
      have h1 : aheadB a b = false := by
        cases e : aheadB a b with
        | false => rfl
        | true => exact absurd ((open_iff _ _).2 ⟨a, ha, e⟩) ho
      refine ⟨?_, h1⟩
      rcases lt_total a b with e | e | e
      · subst e; rw [ahead_refl] at h1; cases h1
      · exact e
      · rw [ht a (h.sub a ha)] at e; cases e
theorem FrInv.fold (s : List Tm) : ∀ (p acc : List Tm), FrInv p acc → Rising (p ++ s) → FrInv (p ++ s) (s.foldl frontStep acc) := by
  induction s with
  | nil => intro p acc h _; simpa using h
  | cons t s ih =>
    intro p acc h hr
    have h1 := h.step t fun u hu => (List.pairwise_append.1 hr).2.2 u hu t List.mem_cons_self
    have h2 := ih (p ++ [t]) _ h1 (by simpa using hr)
    simpa using h2
theorem front_inv (l : List Tm) : FrInv (sortV l) (frontV l) := by
  have := FrInv.fold (sortV l) [] [] ⟨by simp, by simp, List.Pairwise.nil⟩ (by simpa using sortV_rising l)
  simpa [frontV] using this

theorem front_strict (l : List Tm) : Strict (frontV l) := (front_inv l).str.imp fun h => h.1
theorem front_sub {l : List Tm} {t : Tm} (h : t ∈ frontV l) : t ∈ l := (sortV_perm l).mem_iff.1 ((front_inv l).sub t h)
theorem front_cov {l : List Tm} {t : Tm} (h : t ∈ l) : openV (frontV l) t = true := (front_inv l).cov t ((sortV_perm l).mem_iff.2 h)
/-- None of a front is at or ahead of another. -/
theorem front_none {l : List Tm} {s t : Tm} (hs : s ∈ frontV l) (ht : t ∈ frontV l) (h : aheadB s t = true) : s = t := by
  have hst := (front_inv l).str
  rw [List.pairwise_iff_getElem] at hst
  obtain ⟨i, hi, rfl⟩ := List.getElem_of_mem hs
  obtain ⟨j, hj, rfl⟩ := List.getElem_of_mem ht
  rcases Nat.lt_trichotomy i j with hij | rfl | hij
  · have := (hst i j hi hj hij).2; rw [this] at h; cases h
  · rfl
  · rcases ahead_lt h with e | e
    · exact e
    · have := lt_asymm (hst j i hj hi hij).1; rw [this] at e; cases e
theorem front_mem (l : List Tm) (t : Tm) : t ∈ frontV l ↔ t ∈ l ∧ ∀ u ∈ l, aheadB u t = true → u = t := by
  constructor
  · intro h
    refine ⟨front_sub h, fun u hu ha => ?_⟩
    obtain ⟨v, hv, hvu⟩ := (open_iff _ _).1 (front_cov hu)
    have := front_none hv h (ahead_trans hvu ha)
    subst this
    exact ahead_anti ha hvu
  · intro ⟨h1, h2⟩
    obtain ⟨v, hv, hvt⟩ := (open_iff _ _).1 (front_cov h1)
    rw [← h2 v (front_sub hv) hvt]
    exact hv
theorem strict_eq {xs ys : List Tm} (hx : Strict xs) (hy : Strict ys) (h : ∀ t, t ∈ xs ↔ t ∈ ys) : xs = ys := by
  induction xs generalizing ys with
  | nil =>
    cases ys with
    | nil => rfl
    | cons y ys => exact absurd ((h y).2 List.mem_cons_self) List.not_mem_nil
  | cons x xs ih =>
    cases ys with
    | nil => exact absurd ((h x).1 List.mem_cons_self) List.not_mem_nil
    | cons y ys =>
      have h1 := List.pairwise_cons.1 hx
      have h2 := List.pairwise_cons.1 hy
      have hxy : x = y := by
        rcases List.mem_cons.1 ((h x).1 List.mem_cons_self) with e | hm
        · exact e
        · rcases List.mem_cons.1 ((h y).2 List.mem_cons_self) with e | hm'
          · exact e.symm
          · have := lt_asymm (h1.1 y hm'); rw [h2.1 x hm] at this; cases this
      subst hxy
      rw [ih h1.2 h2.2]
      intro t
      constructor
      · intro ht
        rcases List.mem_cons.1 ((h t).1 (List.mem_cons_of_mem _ ht)) with e | e
        · subst e; have := h1.1 t ht; rw [lt_irrefl] at this; cases this
        · exact e
      · intro ht
        rcases List.mem_cons.1 ((h t).2 (List.mem_cons_of_mem _ ht)) with e | e
        · subst e; have := h2.1 t ht; rw [lt_irrefl] at this; cases this
        · exact e
theorem front_same {l m : List Tm} (h : ∀ t, t ∈ l ↔ t ∈ m) : frontV l = frontV m :=
  strict_eq (front_strict l) (front_strict m) fun t => by
    rw [front_mem, front_mem, h]
    exact ⟨fun ⟨a, b⟩ => ⟨a, fun u hu => b u ((h u).2 hu)⟩, fun ⟨a, b⟩ => ⟨a, fun u hu => b u ((h u).1 hu)⟩⟩
theorem front_again (l : List Tm) : frontV (frontV l) = frontV l :=
  strict_eq (front_strict _) (front_strict _) fun t => by
    rw [front_mem]
    exact ⟨fun h => h.1, fun h => ⟨h, fun u hu ha => front_none hu h ha⟩⟩
theorem open_front (l : List Tm) (t : Tm) : openV (frontV l) t = openV l t := by
  rw [Bool.eq_iff_iff, open_iff, open_iff]
  constructor
  · rintro ⟨u, hu, ha⟩; exact ⟨u, front_sub hu, ha⟩
  · rintro ⟨u, hu, ha⟩
    obtain ⟨v, hv, hvu⟩ := (open_iff _ _).1 (front_cov hu)
    exact ⟨v, hv, ahead_trans hvu ha⟩
theorem sortV_length (l : List Tm) : (sortV l).length = l.length := (sortV_perm l).length_eq
theorem front_length (l : List Tm) : (frontV l).length ≤ l.length := by
  have h : ∀ (s acc : List Tm), (s.foldl frontStep acc).length ≤ acc.length + s.length := by
    intro s
    induction s with
    | nil => intro acc; simp
    | cons t s ih =>
      intro acc
      have h1 : (frontStep acc t).length ≤ acc.length + 1 := by unfold frontStep; split <;> simp
      have := ih (frontStep acc t)
      simp only [List.foldl_cons, List.length_cons]
      omega
  have := h (sortV l) []
  rw [sortV_length] at this
  simpa [frontV] using this
end Go.Proofs.YtiiegpklpmogmaaGreatDoor
