/- Texts that are none, in plain Lean. No program in sight. -/
import Derived.Test.YtiiegpklpmogmaaGreatDoorStPlain5
set_option linter.unusedVariables false
set_option linter.unusedSimpArgs false
namespace Go.Proofs.YtiiegpklpmogmaaGreatDoor

theorem spl_length (l : List UInt8) : (spl l).length = l.count 46 + 1 := by
  induction l with
  | nil => rfl
  | cons c r ih =>
    unfold spl
    split
    · rename_i h; subst h; simp [ih]
    · rename_i h
      have hc : (c :: r).count 46 = r.count 46 := List.count_cons_of_ne (by simpa using h)
      rw [hc, ← ih]
      split
      · rename_i x xs hs; rw [hs]; simp
      · rename_i hs; exact absurd hs (spl_ne r)
theorem nats_length {t : Tm} {n : Nat} (h : n ≤ 3) : (natsOf t n).length = n := by simp [natsOf, nums]; omega
theorem spl_text {t : Tm} {n : Nat} (h1 : 1 ≤ n) (h3 : n ≤ 3) : spl (textV t n) = (natsOf t n).map Lib.decDigits := by
  rw [text_nats]
  refine spl_join_back _ fun e => ?_
  have := nats_length (t := t) h3
  rw [e] at this
  simp at this
  omega
theorem text_points {t : Tm} {n : Nat} (h1 : 1 ≤ n) (h3 : n ≤ 3) : (textV t n).count 46 + 1 = n := by
  rw [← spl_length, spl_text h1 h3, List.length_map, nats_length h3]
theorem join_chars : ∀ (us : List Nat), ∀ c ∈ Lib.join (us.map Lib.decDigits) [46], isDig c ∨ c = 46 := by
  intro us
  induction us with
  | nil => intro c hc; simp [Lib.join_nil] at hc
  | cons u us ih =>
    intro c hc
    cases us with
    | nil => rw [List.map_cons, List.map_nil, Lib.join_one] at hc; exact .inl (dec_digits u c hc)
    | cons v vs =>
      have e : Lib.join ((u :: v :: vs).map Lib.decDigits) [46] = Lib.decDigits u ++ 46 :: Lib.join ((v :: vs).map Lib.decDigits) [46] := by
        simp only [List.map_cons, Lib.join_cons, Lib.joinTail, List.map_cons, List.flatten_cons]
        simp
      rw [e] at hc
      rcases List.mem_append.1 hc with hc | hc
      · exact .inl (dec_digits u c hc)
      · rcases List.mem_cons.1 hc with hc | hc
        · exact .inr hc
        · exact ih c hc
theorem text_chars {t : Tm} {n : Nat} : ∀ c ∈ textV t n, isDig c ∨ c = 46 := by rw [text_nats]; exact join_chars _

theorem head_text {t : Tm} {n : Nat} (h1 : 1 ≤ n) (h3 : n ≤ 3) : (spl (textV t n)).head? = some (Lib.decDigits t.a.toNat) := by
  rw [spl_text h1 h3]
  obtain ⟨m, rfl⟩ : ∃ m, n = m + 1 := ⟨n - 1, by omega⟩
  rfl

/-- The odd texts. -/
def odds (s : List UInt8) : List (List UInt8) := [48 :: s, 43 :: s, s ++ [46], s ++ [32], 45 :: s, s ++ [46, 48], 46 :: s]
theorem odds_none {a t : Tm} {n : Nat} (h1 : 1 ≤ n) (h3 : n ≤ 3) : ∀ o ∈ odds (textV a n), o ≠ textV t n := by
  intro o ho e
  have hp := text_points (t := t) h1 h3
  have hq := text_points (t := a) h1 h3
  simp only [odds, List.mem_cons, List.mem_nil_iff, or_false] at ho
  rcases ho with rfl | rfl | rfl | rfl | rfl | rfl | rfl
  · have h := head_text (t := t) h1 h3
    have h' := head_text (t := a) h1 h3
    rw [← e] at h
    unfold spl at h
    rw [if_neg (by decide)] at h
    split at h
    · rename_i x xs hs
      rw [hs] at h'
      simp at h h'
      have := dec_zero _ _ h.symm
      rw [h'] at this
      exact dec_ne_nil _ this
    · rename_i hs; exact spl_ne _ hs
  · have := text_chars (t := t) (n := n) 43 (by rw [← e]; simp)
    simp [isDig] at this
  · rw [← e] at hp; simp at hp; omega
  · have := text_chars (t := t) (n := n) 32 (by rw [← e]; simp)
    simp [isDig] at this
  · have := text_chars (t := t) (n := n) 45 (by rw [← e]; simp)
    simp [isDig] at this
  · rw [← e] at hp; simp [List.count_cons] at hp; omega
  · rw [← e] at hp; simp at hp; omega
theorem odds_parse {a : Tm} {n : Int} (h1 : 1 ≤ n) (h3 : n ≤ 3) {o : List UInt8} (ho : o ∈ odds (textV a n.toNat)) : parseV ⟨o.toArray⟩ n = (tm0, 11) := by
  refine parse_bad h1 h3 fun h => ?_
  obtain ⟨_, _, _, _, he⟩ := parse_good (s := ⟨o.toArray⟩) (n := n) (t := (parseV ⟨o.toArray⟩ n).1) (by rw [← h])
  exact odds_none (a := a) (t := (parseV ⟨o.toArray⟩ n).1) (n := n.toNat) (by omega) (by omega) o ho he
theorem text_inj {a b : Tm} {n : Int} (ha : a.ok) (hb : b.ok) (h1 : 1 ≤ n) (h3 : n ≤ 3) (fa : fitsV a.a a.b a.c n = 0) (fb : fitsV b.a b.b b.c n = 0) (h : textV b n.toNat = textV a n.toNat) : a = b := by
  have h1 := parse_text ha h1 h3 fa
  have h2 := parse_text hb (by omega) h3 fb
  rw [h, h1] at h2
  exact congrArg Prod.fst h2
end Go.Proofs.YtiiegpklpmogmaaGreatDoor
