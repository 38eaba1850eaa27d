/- What the document's own reading of a text tells, in plain Lean. No program in sight. -/
import Derived.Test.YtiiegpklpmogmaaDoorStPlain7
set_option linter.unusedVariables false
set_option linter.unusedSimpArgs false
namespace Go.Proofs.YtiiegpklpmogmaaDoor

def u64Mod (x : Int) : Int := x % 18446744073709551616
/-- One digit more for number k. -/
def rdig (k : Nat) (x : Tm) (d : Int) : Tm := if k = 0 then ⟨u64Mod (u64Mod (10 * x.a) + d), x.b, x.c⟩ else if k = 1 then ⟨x.a, u64Mod (u64Mod (10 * x.b) + d), x.c⟩ else ⟨x.a, x.b, u64Mod (u64Mod (10 * x.c) + d)⟩
def rstep (st : Nat × Tm) (c : UInt8) : Option (Nat × Tm) :=
  if c = 46 ∧ st.1 < 2 then some (st.1 + 1, st.2)
  else if isDig c then some (st.1, rdig st.1 st.2 (c.toNat - 48))
  else none
def rfold : Nat × Tm → List UInt8 → Option (Nat × Tm)
  | st, [] => some st
  | st, c :: r => match rstep st c with | some st' => rfold st' r | none => none
def rparseV (s : List UInt8) (n : Int) : Tm × Int :=
  if n < 1 ∨ n > 3 then (tm0, 10)
  else match rfold (0, tm0) s with
    | none => (tm0, 11)
    | some (_, t) => if fitsV t.a t.b t.c n = 0 ∧ textV t n.toNat = s then (t, 0) else (tm0, 11)

theorem rfold_app (a b : List UInt8) : ∀ st, rfold st (a ++ b) = match rfold st a with | some st' => rfold st' b | none => none := by
  induction a with
  | nil => intro st; rfl
  | cons c r ih =>
    intro st
    simp only [List.cons_append, rfold]
    cases rstep st c with
    | none => rfl
    | some st' => exact ih st'
theorem rfold_snoc {s : List UInt8} {k : Nat} {st : Nat × Tm} {c : UInt8} (h : rfold (0, tm0) (s.take k) = some st) (hc : s[k]? = some c) : rfold (0, tm0) (s.take (k + 1)) = rstep st c := by
  rw [List.take_add_one, hc, rfold_app, h]
  simp only [Option.toList_some, rfold]
  cases rstep st c <;> rfl
theorem rfold_none {s : List UInt8} {k : Nat} (h : rfold (0, tm0) (s.take k) = none) : rfold (0, tm0) s = none := by
  rw [← List.take_append_drop k s, rfold_app, h]

theorem dig_ne46 {c : UInt8} (h : isDig c) : c ≠ 46 := fun e => by subst e; simp [isDig] at h
/-- A numeral read into number k. -/
theorem rfold_digits (k : Nat) (l : List UInt8) (hl : ∀ c ∈ l, isDig c) : ∀ (x : Tm) (acc : Nat), valFrom acc l < 18446744073709551616 →
    rfold (k, if k = 0 then ⟨acc, x.b, x.c⟩ else if k = 1 then ⟨x.a, acc, x.c⟩ else ⟨x.a, x.b, acc⟩) l = some (k, if k = 0 then ⟨valFrom acc l, x.b, x.c⟩ else if k = 1 then ⟨x.a, valFrom acc l, x.c⟩ else ⟨x.a, x.b, valFrom acc l⟩) := by
  induction l with
  | nil => intro x acc _; rfl
  | cons c r ih =>
    intro x acc hv
    have hc := hl c List.mem_cons_self
    have hc' := hc
    unfold isDig at hc'
    have h1 : valFrom acc (c :: r) = valFrom (acc * 10 + (c.toNat - 48)) r := rfl
    have h2 := val_mono r (acc * 10 + (c.toNat - 48))
    rw [h1] at hv ⊢
    have h3 := ih (fun d hd => hl d (List.mem_cons_of_mem _ hd)) x (acc * 10 + (c.toNat - 48)) hv
    have e : u64Mod (u64Mod (10 * (acc : Int)) + ((c.toNat : Int) - 48)) = ((acc * 10 + (c.toNat - 48) : Nat) : Int) := by
      unfold u64Mod; omega
    unfold rfold rstep
    rw [if_neg (fun h => dig_ne46 hc h.1), if_pos hc]
    simp only
    rw [← h3]
    congr 2
    unfold rdig
    by_cases k0 : k = 0
    · simp only [k0, if_true, e]
    · by_cases k1 : k = 1
      · subst k1; simp only [if_true, if_neg (show ¬ (1 : Nat) = 0 by decide), e]
      · simp only [if_neg k0, if_neg k1, e]
theorem rfold_dec (k : Nat) (u : Nat) (hu : u < 18446744073709551616) (x : Tm) (h0 : (if k = 0 then x.a else if k = 1 then x.b else x.c) = 0) :
    rfold (k, x) (Lib.decDigits u) = some (k, if k = 0 then ⟨u, x.b, x.c⟩ else if k = 1 then ⟨x.a, u, x.c⟩ else ⟨x.a, x.b, u⟩) := by
  have h := rfold_digits k (Lib.decDigits u) (dec_digits u) x 0 (by rw [dec_val]; exact hu)
  rw [dec_val] at h
  rw [← h]
  congr 2
  obtain ⟨a, b, c⟩ := x
  by_cases k0 : k = 0
  · simp only [k0, if_true] at h0 ⊢; subst h0; rfl
  · by_cases k1 : k = 1
    · subst k1; simp only [if_true, if_neg (show ¬ (1 : Nat) = 0 by decide)] at h0 ⊢; subst h0; rfl
    · simp only [if_neg k0, if_neg k1] at h0 ⊢; subst h0; rfl
theorem rstep_point (k : Nat) (x : Tm) (h : k < 2) : rstep (k, x) 46 = some (k + 1, x) := by unfold rstep; rw [if_pos ⟨rfl, h⟩]
theorem rfold_text {t : Tm} {n : Int} (hok : t.ok) (h1 : 1 ≤ n) (h3 : n ≤ 3) (hf : fitsV t.a t.b t.c n = 0) : ∃ k, rfold (0, tm0) (textV t n.toNat) = some (k, t) := by
  obtain ⟨a, b, c⟩ := t
  obtain ⟨⟨a1, a2⟩, ⟨b1, b2⟩, ⟨c1, c2⟩⟩ := hok
  simp only at a1 a2 b1 b2 c1 c2 hf
  have hn' : n = 1 ∨ n = 2 ∨ n = 3 := by omega
  have e0 := rfold_dec 0 a.toNat (by omega) tm0 rfl
  simp only [if_true, tm0] at e0
  rw [show ((a.toNat : Nat) : Int) = a by omega] at e0
  have e1 := rfold_dec 1 b.toNat (by omega) ⟨a, 0, 0⟩ rfl
  simp only [if_true, if_neg (show ¬ (1 : Nat) = 0 by decide)] at e1
  rw [show ((b.toNat : Nat) : Int) = b by omega] at e1
  have e2 := rfold_dec 2 c.toNat (by omega) ⟨a, b, 0⟩ rfl
  simp only [if_neg (show ¬ (2 : Nat) = 0 by decide), if_neg (show ¬ (2 : Nat) = 1 by decide)] at e2
  rw [show ((c.toNat : Nat) : Int) = c by omega] at e2
  have p : ∀ st (r : List UInt8), rfold st (46 :: r) = match rstep st 46 with | some st' => rfold st' r | none => none := fun _ _ => rfl
  rcases hn' with rfl | rfl | rfl
  · have hbc : b = 0 ∧ c = 0 := by
      unfold fitsV at hf
      rw [if_neg (by omega)] at hf
      split at hf
      · cases hf
      · omega
    obtain ⟨rfl, rfl⟩ := hbc
    refine ⟨0, ?_⟩
    rw [show textV ⟨a, 0, 0⟩ (1 : Int).toNat = Lib.decDigits a.toNat by simp [textV, nums, decI, Lib.join_one]]
    exact e0
  · have hc0 : c = 0 := by
      unfold fitsV at hf
      rw [if_neg (by omega)] at hf
      split at hf
      · cases hf
      · omega
    subst hc0
    refine ⟨1, ?_⟩
    rw [show textV ⟨a, b, 0⟩ (2 : Int).toNat = Lib.decDigits a.toNat ++ 46 :: Lib.decDigits b.toNat by simp [textV, nums, decI, Lib.join, List.intercalate]]
    unfold tm0
    rw [rfold_app, e0]
    simp only
    rw [p, rstep_point 0 _ (by omega)]
    exact e1
  · refine ⟨2, ?_⟩
    rw [show textV ⟨a, b, c⟩ (3 : Int).toNat = Lib.decDigits a.toNat ++ 46 :: (Lib.decDigits b.toNat ++ 46 :: Lib.decDigits c.toNat) by simp [textV, nums, decI, Lib.join, List.intercalate]]
    unfold tm0
    rw [rfold_app, e0]
    simp only
    rw [p, rstep_point 0 _ (by omega)]
    simp only
    rw [rfold_app, e1]
    simp only
    rw [p, rstep_point 1 _ (by omega)]
    exact e2
theorem rdig_ok {k : Nat} {x : Tm} {d : Int} (h : x.ok) : (rdig k x d).ok := by
  obtain ⟨⟨a1, a2⟩, ⟨b1, b2⟩, ⟨c1, c2⟩⟩ := h
  unfold rdig u64Mod Tm.ok
  split
  · simp only; omega
  · split
    · simp only; omega
    · simp only; omega
theorem rstep_ok {st st' : Nat × Tm} {c : UInt8} (h : st.2.ok) (hs : rstep st c = some st') : st'.2.ok := by
  unfold rstep at hs
  split at hs
  · injection hs with hs; subst hs; exact h
  · split at hs
    · injection hs with hs; subst hs; exact rdig_ok h
    · cases hs
theorem rfold_ok (s : List UInt8) : ∀ (st st' : Nat × Tm), st.2.ok → rfold st s = some st' → st'.2.ok := by
  induction s with
  | nil => intro st st' h hs; simp only [rfold, Option.some.injEq] at hs; subst hs; exact h
  | cons c r ih =>
    intro st st' h hs
    simp only [rfold] at hs
    cases hr : rstep st c with
    | none => rw [hr] at hs; cases hs
    | some st1 => rw [hr] at hs; exact ih st1 st' (rstep_ok h hr) hs
/-- The two readings are one. -/
theorem rparse_same (s : ByteArray) (n : Int) : rparseV s.data.toList n = parseV s n := by
  by_cases hn : n < 1 ∨ n > 3
  · unfold rparseV parseV; rw [if_pos hn, if_pos hn]
  · by_cases hz : (parseV s n).2 = 0
    · have hp : parseV s n = ((parseV s n).1, 0) := by rw [← hz]
      obtain ⟨hok, hf, h1, h3, hs⟩ := parse_good hp
      generalize (parseV s n).1 = t at *
      rw [hp]
      obtain ⟨k, hk⟩ := rfold_text hok h1 h3 hf
      unfold rparseV
      rw [if_neg hn, hs, hk]
      simp [hf]
    · have hb := parse_bad (s := s) (n := n) (by omega) (by omega) hz
      rw [hb]
      unfold rparseV
      rw [if_neg hn]
      cases hr : rfold (0, tm0) s.data.toList with
      | none => rfl
      | some st =>
        simp only
        rw [if_neg]
        intro ⟨hf, hs⟩
        have hok : st.2.ok := rfold_ok _ _ _ (by unfold Tm.ok tm0; simp) hr
        have hp := parse_text hok (by omega) (by omega) hf
        rw [hs] at hp
        have : (⟨s.data.toList.toArray⟩ : ByteArray) = s := by cases s; rfl
        rw [this] at hp
        rw [hp] at hz
        exact hz rfl
end Go.Proofs.YtiiegpklpmogmaaDoor
