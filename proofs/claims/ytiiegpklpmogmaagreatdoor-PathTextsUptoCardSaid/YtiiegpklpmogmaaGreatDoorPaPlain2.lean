/- Paths' texts in plain Lean: a time's text with commas, behind a plus. No program in sight. -/
import Derived.Test.YtiiegpklpmogmaaGreatDoorPaPlain
import Derived.Test.YtiiegpklpmogmaaGreatDoorStPlain7
import Derived.Lib.Replace
set_option linter.unusedVariables false
set_option linter.unusedSimpArgs false
namespace Go.Proofs.YtiiegpklpmogmaaGreatDoor

/-- Each a put as b. -/
def repl (a b : UInt8) (s : List UInt8) : List UInt8 := s.map fun c => if c = a then b else c
theorem replaceK_one (a b : UInt8) (s : List UInt8) : Lib.replaceK [a] [b] (Lib.count s [a]) s = repl a b s := by
  induction s with
  | nil => rfl
  | cons c r ih =>
    by_cases hc : c = a
    · subst hc
      rw [Lib.count_cons_eq, Nat.add_comm]
      have hi : Lib.index (c :: r) [c] = (0 : Nat) := by rw [Lib.index]; simp [List.isPrefixOf]
      rw [Lib.replaceK_hit _ _ _ _ 0 hi]
      simp [repl, ih]
    · rw [Lib.count_cons_ne c a r hc]
      have hp : ([a] : List UInt8).isPrefixOf (c :: r) = false := by simp [List.isPrefixOf, Ne.symm hc]
      have hi : Lib.index (c :: r) [a] = if Lib.index r [a] == -1 then -1 else Lib.index r [a] + 1 := by
        rw [Lib.index, hp]; simp
      have hge := Lib.index_ge r [a]
      have e : repl a b (c :: r) = c :: repl a b r := by simp [repl, hc]
      rw [e, ← ih]
      cases Lib.count r [a] with
      | zero => rfl
      | succ k =>
        unfold Lib.replaceK
        rw [hi]
        by_cases hm : Lib.index r [a] = -1
        · simp [hm]
        · have h2 : ¬ (Lib.index r [a] + 1 = -1) := by omega
          have h3 : (Lib.index r [a] + 1).toNat = (Lib.index r [a]).toNat + 1 := by omega
          simp [hm, h2, h3, Nat.add_right_comm]
theorem replaceAll_one (a b : UInt8) (h : a ≠ b) (s : List UInt8) : Lib.replaceAll s [a] [b] = repl a b s := by
  unfold Lib.replaceAll Lib.replace Lib.replaceNum
  rw [if_neg (by simpa using h), if_pos (.inl (by omega))]
  exact replaceK_one a b s
theorem repl_length (a b : UInt8) (s : List UInt8) : (repl a b s).length = s.length := by simp [repl]
theorem repl_not (a b : UInt8) (h : a ≠ b) (s : List UInt8) : a ∉ repl a b s := by
  intro hm
  unfold repl at hm
  obtain ⟨c, _, hc⟩ := List.mem_map.1 hm
  split at hc
  · exact h hc.symm
  · rename_i hn; exact hn hc
theorem repl_back (a b : UInt8) (s : List UInt8) (hb : b ∉ s) : repl b a (repl a b s) = s := by
  induction s with
  | nil => rfl
  | cons c r ih =>
    have h1 : b ∉ r := fun h => hb (List.mem_cons_of_mem _ h)
    have h2 : c ≠ b := fun h => hb (by simp [h])
    have e : ∀ x, repl b a (x :: repl a b r) = (if x = b then a else x) :: repl b a (repl a b r) := fun x => rfl
    show repl b a ((if c = a then b else c) :: repl a b r) = c :: r
    rw [e, ih h1]
    by_cases hc : c = a
    · rw [if_pos hc, if_pos rfl, hc]
    · rw [if_neg hc, if_neg h2]

/-- A path's text. -/
def pTextV (t : Tm) (n : Nat) : List UInt8 := 43 :: repl 46 44 (textV t n)
/-- What is left behind the plus, where no point stands in it. -/
def behindPlus (s : List UInt8) : List UInt8 := if Lib.hasPrefix s [43] = true ∧ ¬ 0 ≤ Lib.indexByte (Lib.trimPrefix s [43]) 46 then Lib.trimPrefix s [43] else []
def pParseV (s : ByteArray) (n : Int) : Tm × Int := parseV ⟨(repl 44 46 (behindPlus s.data.toList)).toArray⟩ n

theorem indexByte_mem (l : List UInt8) (c : UInt8) : 0 ≤ Lib.indexByte l c ↔ c ∈ l := by
  induction l with
  | nil => simp [Lib.indexByte]
  | cons b r ih =>
    have hge := Lib.indexByte_ge r c
    unfold Lib.indexByte
    by_cases hb : b = c
    · simp [hb]
    · have hb' : (b == c) = false := by simpa using hb
      have hcb : c ≠ b := fun h => hb h.symm
      rw [hb']
      by_cases hm : Lib.indexByte r c = -1
      · have : c ∉ r := fun h => by have := ih.2 h; omega
        simp [hm, this, hcb]
      · have : c ∈ r := ih.1 (by omega)
        simp [hm, this]
        omega
theorem behindPlus_cons (r : List UInt8) : behindPlus (43 :: r) = if (46 : UInt8) ∈ r then [] else r := by
  unfold behindPlus
  have h1 : Lib.hasPrefix (43 :: r) [43] = true := by simp [Lib.hasPrefix, List.isPrefixOf]
  have h2 : Lib.trimPrefix (43 :: r) [43] = r := by unfold Lib.trimPrefix; rw [h1]; simp
  rw [h1, h2]
  by_cases h : (46 : UInt8) ∈ r
  · rw [if_pos h, if_neg (by have := (indexByte_mem r 46).2 h; simp; omega)]
  · rw [if_neg h, if_pos ⟨rfl, fun h' => h ((indexByte_mem r 46).1 h')⟩]
theorem behindPlus_some {s : List UInt8} (h : behindPlus s ≠ []) : s = 43 :: behindPlus s ∧ (46 : UInt8) ∉ behindPlus s := by
  cases s with
  | nil => exact absurd (by unfold behindPlus; simp [Lib.hasPrefix, List.isPrefixOf]) h
  | cons c r =>
    by_cases hc : c = 43
    · subst hc
      rw [behindPlus_cons] at h ⊢
      by_cases hm : (46 : UInt8) ∈ r
      · rw [if_pos hm] at h; exact absurd rfl h
      · rw [if_neg hm]; exact ⟨rfl, hm⟩
    · refine absurd ?_ h
      unfold behindPlus
      have : Lib.hasPrefix (c :: r) [43] = false := by simp [Lib.hasPrefix, List.isPrefixOf, Ne.symm hc]
      rw [this]
      simp
theorem behindPlus_le (s : List UInt8) : (behindPlus s).length ≤ s.length := by
  by_cases h : behindPlus s = []
  · rw [h]; simp
  · have := (behindPlus_some h).1
    have h2 := congrArg List.length this
    simp at h2
    omega
theorem text_not44 {t : Tm} {n : Nat} : (44 : UInt8) ∉ textV t n := fun h => by
  have := text_chars (t := t) (n := n) 44 h
  simp [isDig] at this
theorem text_ne {t : Tm} {n : Nat} (h1 : 1 ≤ n) (h3 : n ≤ 3) : textV t n ≠ [] := fun e => by
  have := spl_text (t := t) h1 h3
  rw [e] at this
  have h2 := congrArg List.head? this
  rw [show spl [] = [[]] from rfl, ← spl_text (t := t) h1 h3, head_text h1 h3] at h2
  simp at h2
  exact dec_ne_nil _ h2

/-- A path's text is read back. -/
theorem pparse_text {t : Tm} {n : Int} (hok : t.ok) (h1 : 1 ≤ n) (h3 : n ≤ 3) (hf : fitsV t.a t.b t.c n = 0) : pParseV ⟨(pTextV t n.toNat).toArray⟩ n = (t, 0) := by
  unfold pParseV
  rw [show (⟨(pTextV t n.toNat).toArray⟩ : ByteArray).data.toList = pTextV t n.toNat from rfl]
  unfold pTextV
  rw [behindPlus_cons, if_neg (repl_not 46 44 (by decide) _), repl_back 46 44 _ text_not44]
  exact parse_text hok h1 h3 hf
/-- What is read has that text. -/
theorem pparse_good {s : ByteArray} {n : Int} {t : Tm} (h : pParseV s n = (t, 0)) : t.ok ∧ fitsV t.a t.b t.c n = 0 ∧ 1 ≤ n ∧ n ≤ 3 ∧ s.data.toList = pTextV t n.toNat := by
  obtain ⟨a1, a2, a3, a4, a5⟩ := parse_good h
  refine ⟨a1, a2, a3, a4, ?_⟩
  rw [show (⟨(repl 44 46 (behindPlus s.data.toList)).toArray⟩ : ByteArray).data.toList = repl 44 46 (behindPlus s.data.toList) from rfl] at a5
  have hne : behindPlus s.data.toList ≠ [] := fun e => by
    rw [e] at a5
    exact text_ne (t := t) (n := n.toNat) (by omega) (by omega) a5.symm
  obtain ⟨b1, b2⟩ := behindPlus_some hne
  rw [b1]
  unfold pTextV
  rw [← a5, repl_back 44 46 _ b2]
theorem pparse_none (s : ByteArray) (n : Int) (h : (pParseV s n).2 ≠ 0) : (pParseV s n).1 = tm0 := by
  by_cases ha : 1 ≤ n ∧ n ≤ 3
  · exact congrArg Prod.fst (parse_bad ha.1 ha.2 h)
  · unfold pParseV parseV
    rw [if_pos (by omega)]
theorem ptext_commas {t : Tm} {n : Nat} (h1 : 1 ≤ n) (h3 : n ≤ 3) : (pTextV t n).count 44 + 1 = n := by
  have h := text_points (t := t) h1 h3
  have key : ∀ s : List UInt8, (44 : UInt8) ∉ s → (repl 46 44 s).count 44 = s.count 46 := by
    intro s
    induction s with
    | nil => intro _; rfl
    | cons c r ih =>
      intro hc
      have h1 := ih (fun hm => hc (List.mem_cons_of_mem _ hm))
      have h2 : c ≠ 44 := fun e => hc (by simp [e])
      show List.count 44 ((if c = 46 then 44 else c) :: repl 46 44 r) = _
      by_cases h46 : c = 46
      · subst h46
        rw [if_pos rfl]
        simp [h1]
      · rw [if_neg h46, List.count_cons_of_ne (by simpa using h2), List.count_cons_of_ne (by simpa using h46), h1]
  unfold pTextV
  rw [List.count_cons_of_ne (by decide), key _ text_not44]
  exact h
theorem ptext_length (t : Tm) (n : Nat) : (pTextV t n).length = (textV t n).length + 1 := by simp [pTextV, repl_length]
end Go.Proofs.YtiiegpklpmogmaaGreatDoor
