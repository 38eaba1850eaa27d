/- What the document's own reading of a path's text tells, in plain Lean. No program in sight. -/
import Derived.Test.YtiiegpklpmogmaaGreatDoorPaPlain2
set_option linter.unusedVariables false
set_option linter.unusedSimpArgs false
namespace Go.Proofs.YtiiegpklpmogmaaGreatDoor

def u64Mod2 (x : Int) : Int := x % 18446744073709551616
/-- One digit more. -/
def nstep (n : Int) (c : UInt8) : Int := u64Mod2 (u64Mod2 (10 * n) + ((c.toNat : Int) - 48))
def numV (l : List UInt8) : Int := l.foldl nstep 0
abbrev Q3 := List UInt8 × List UInt8 × List UInt8
def qapp (k : Nat) (p : Q3) (l : List UInt8) : Q3 := if k = 0 then (p.1 ++ l, p.2.1, p.2.2) else if k = 1 then (p.1, p.2.1 ++ l, p.2.2) else (p.1, p.2.1, p.2.2 ++ l)
def qstep (st : Nat × Q3) (c : UInt8) : Option (Nat × Q3) :=
  if isDig c then some (st.1, qapp st.1 st.2 [c])
  else if c = 44 ∧ st.1 < 2 then some (st.1 + 1, st.2)
  else if c = 43 then some st
  else none
def qfold : Nat × Q3 → List UInt8 → Option (Nat × Q3)
  | st, [] => some st
  | st, c :: r => match qstep st c with | some st' => qfold st' r | none => none
def q2tm (p : Q3) : Tm := ⟨numV p.1, numV p.2.1, numV p.2.2⟩
def q2parseV (s : List UInt8) (n : Int) : Tm × Int :=
  if n < 1 ∨ n > 3 then (tm0, 10)
  else match qfold (0, [], [], []) s with
    | none => (tm0, 11)
    | some st => if fitsV (q2tm st.2).a (q2tm st.2).b (q2tm st.2).c n = 0 ∧ pTextV (q2tm st.2) n.toNat = s then (q2tm st.2, 0) else (tm0, 11)

theorem nstep_range (n : Int) (c : UInt8) : 0 ≤ nstep n c ∧ nstep n c < 18446744073709551616 := by unfold nstep u64Mod2; omega
theorem foldl_range (l : List UInt8) : ∀ n : Int, (0 ≤ n ∧ n < 18446744073709551616) → 0 ≤ l.foldl nstep n ∧ l.foldl nstep n < 18446744073709551616 := by
  induction l with
  | nil => intro n h; exact h
  | cons c r ih => intro n h; exact ih _ (nstep_range n c)
theorem numV_range (l : List UInt8) : 0 ≤ numV l ∧ numV l < 18446744073709551616 := foldl_range l 0 (by omega)
theorem q2tm_ok (p : Q3) : (q2tm p).ok := ⟨numV_range _, numV_range _, numV_range _⟩
theorem num_snoc (l : List UInt8) (c : UInt8) : numV (l ++ [c]) = nstep (numV l) c := by simp [numV]

theorem qfold_app (a b : List UInt8) : ∀ st, qfold st (a ++ b) = match qfold st a with | some st' => qfold st' b | none => none := by
  induction a with
  | nil => intro st; rfl
  | cons c r ih =>
    intro st
    simp only [List.cons_append, qfold]
    cases qstep st c with
    | none => rfl
    | some st' => exact ih st'
theorem qfold_snoc {z : Nat × Q3} {s : List UInt8} {k : Nat} {st : Nat × Q3} {c : UInt8} (h : qfold z (s.take k) = some st) (hc : s[k]? = some c) : qfold z (s.take (k + 1)) = qstep st c := by
  rw [List.take_add_one, hc, qfold_app, h]
  simp only [Option.toList_some, qfold]
  cases qstep st c <;> rfl
theorem qfold_none {z : Nat × Q3} {s : List UInt8} {k : Nat} (h : qfold z (s.take k) = none) : qfold z s = none := by
  rw [← List.take_append_drop k s, qfold_app, h]

theorem qapp_app (k : Nat) (p : Q3) (a b : List UInt8) : qapp k (qapp k p a) b = qapp k p (a ++ b) := by
  unfold qapp
  by_cases k0 : k = 0
  · simp [k0]
  · by_cases k1 : k = 1
    · simp [k1]
    · simp [k0, k1]
theorem qapp_nil (k : Nat) (p : Q3) : qapp k p [] = p := by
  unfold qapp; split
  · simp
  · split <;> simp
theorem qfold_digits (k : Nat) (l : List UInt8) : (∀ c ∈ l, isDig c) → ∀ p : Q3, qfold (k, p) l = some (k, qapp k p l) := by
  induction l with
  | nil => intro _ p; rw [qapp_nil]; rfl
  | cons c r ih =>
    intro hl p
    have h := ih (fun d hd => hl d (List.mem_cons_of_mem _ hd)) (qapp k p [c])
    rw [qapp_app] at h
    unfold qfold qstep
    rw [if_pos (hl c List.mem_cons_self)]
    exact h
theorem num_val (l : List UInt8) : (∀ c ∈ l, isDig c) → ∀ acc : Nat, valFrom acc l < 18446744073709551616 → l.foldl nstep (acc : Int) = (valFrom acc l : Nat) := by
  induction l with
  | nil => intro _ acc _; rfl
  | cons c r ih =>
    intro hl acc hv
    have hc := hl c List.mem_cons_self
    unfold isDig at hc
    have h1 : valFrom acc (c :: r) = valFrom (acc * 10 + (c.toNat - 48)) r := rfl
    have h2 := val_mono r (acc * 10 + (c.toNat - 48))
    rw [h1] at hv ⊢
    have e : nstep (acc : Int) c = ((acc * 10 + (c.toNat - 48) : Nat) : Int) := by
      unfold nstep u64Mod2; omega
    rw [List.foldl_cons, e]
    exact ih (fun d hd => hl d (List.mem_cons_of_mem _ hd)) _ hv
theorem num_dec {x : Int} (h0 : 0 ≤ x) (h1 : x < 18446744073709551616) : numV (decI x) = x := by
  have h := num_val (Lib.decDigits x.toNat) (dec_digits x.toNat) 0 (by rw [dec_val]; omega)
  rw [dec_val] at h
  unfold numV decI
  rw [show (0 : Int) = ((0 : Nat) : Int) from rfl, h]
  omega
theorem q_repl (x : Int) : repl 46 44 (decI x) = decI x := by
  have h : (46 : UInt8) ∉ decI x := dec_nodot x.toNat
  unfold repl
  rw [List.map_congr_left (g := id)]
  · simp
  · intro c hc
    show (if c = 46 then 44 else c) = c
    exact if_neg (fun e => h (by rw [← e]; exact hc))
theorem qstep_plus (st : Nat × Q3) : qstep st 43 = some st := by unfold qstep; rw [if_neg (by simp [isDig]), if_neg (fun h => absurd h.1 (by decide)), if_pos rfl]
theorem qstep_comma (k : Nat) (p : Q3) (h : k < 2) : qstep (k, p) 44 = some (k + 1, p) := by unfold qstep; rw [if_neg (by simp [isDig]), if_pos ⟨rfl, h⟩]
theorem qfold_plus (st : Nat × Q3) (r : List UInt8) : qfold st (43 :: r) = qfold st r := by unfold qfold; rw [qstep_plus]; cases r <;> rfl
theorem qfold_comma (k : Nat) (p : Q3) (h : k < 2) (r : List UInt8) : qfold (k, p) (44 :: r) = qfold (k + 1, p) r := by
  show (match qstep (k, p) 44 with | some st' => qfold st' r | none => none) = _
  rw [qstep_comma k p h]
theorem repl_two (a b : Int) : repl 46 44 (decI a ++ 46 :: decI b) = decI a ++ 44 :: decI b := by
  have ha := q_repl a; have hb := q_repl b
  unfold repl at ha hb ⊢
  rw [List.map_append, List.map_cons, ha, hb]; rfl
theorem repl_three (a b c : Int) : repl 46 44 (decI a ++ 46 :: (decI b ++ 46 :: decI c)) = decI a ++ 44 :: (decI b ++ 44 :: decI c) := by
  have ha := q_repl a; have hb := repl_two b c
  unfold repl at ha hb ⊢
  rw [List.map_append, List.map_cons, ha, hb]; rfl
theorem num_nil : numV [] = 0 := rfl
theorem qfold_text {t : Tm} {n : Int} (hok : t.ok) (h1 : 1 ≤ n) (h3 : n ≤ 3) (hf : fitsV t.a t.b t.c n = 0) : ∃ st, qfold (0, [], [], []) (pTextV t n.toNat) = some st ∧ q2tm st.2 = t := by
  obtain ⟨a, b, c⟩ := t
  obtain ⟨⟨a1, a2⟩, ⟨b1, b2⟩, ⟨c1, c2⟩⟩ := hok
  simp only at a1 a2 b1 b2 c1 c2 hf
  have hn' : n = 1 ∨ n = 2 ∨ n = 3 := by omega
  have da : ∀ x ∈ decI a, isDig x := dec_digits a.toNat
  have db : ∀ x ∈ decI b, isDig x := dec_digits b.toNat
  have dc : ∀ x ∈ decI c, isDig x := dec_digits c.toNat
  rcases hn' with rfl | rfl | rfl
  · have hbc : b = 0 ∧ c = 0 := by
      unfold fitsV at hf
      rw [if_neg (by omega)] at hf
      split at hf
      · cases hf
      · omega
    obtain ⟨rfl, rfl⟩ := hbc
    have e : pTextV ⟨a, 0, 0⟩ (1 : Int).toNat = 43 :: decI a := by
      have h1 : textV ⟨a, 0, 0⟩ 1 = decI a := by simp [textV, nums, Lib.join_one]
      show 43 :: repl 46 44 (textV ⟨a, 0, 0⟩ 1) = _
      rw [h1, q_repl]
    refine ⟨_, by rw [e, qfold_plus, qfold_digits 0 _ da], ?_⟩
    simp [q2tm, qapp, num_dec a1 a2, num_nil]
  · have hc0 : c = 0 := by
      unfold fitsV at hf
      rw [if_neg (by omega)] at hf
      split at hf
      · cases hf
      · omega
    subst hc0
    have e : pTextV ⟨a, b, 0⟩ (2 : Int).toNat = 43 :: (decI a ++ 44 :: decI b) := by
      have h1 : textV ⟨a, b, 0⟩ 2 = decI a ++ 46 :: decI b := by simp [textV, nums, Lib.join, List.intercalate]
      show 43 :: repl 46 44 (textV ⟨a, b, 0⟩ 2) = _
      rw [h1, repl_two]
    refine ⟨_, by rw [e, qfold_plus, qfold_app, qfold_digits 0 _ da]; simp only; rw [qfold_comma 0 _ (by omega), qfold_digits _ _ db], ?_⟩
    simp [q2tm, qapp, num_dec a1 a2, num_dec b1 b2, num_nil]
  · have e : pTextV ⟨a, b, c⟩ (3 : Int).toNat = 43 :: (decI a ++ 44 :: (decI b ++ 44 :: decI c)) := by
      have h1 : textV ⟨a, b, c⟩ 3 = decI a ++ 46 :: (decI b ++ 46 :: decI c) := by simp [textV, nums, Lib.join, List.intercalate]
      show 43 :: repl 46 44 (textV ⟨a, b, c⟩ 3) = _
      rw [h1, repl_three]
    refine ⟨_, by rw [e, qfold_plus, qfold_app, qfold_digits 0 _ da]; simp only; rw [qfold_comma 0 _ (by omega), qfold_app, qfold_digits _ _ db]; simp only; rw [qfold_comma _ _ (by omega), qfold_digits _ _ dc], ?_⟩
    simp [q2tm, qapp, num_dec a1 a2, num_dec b1 b2, num_dec c1 c2]
/-- The two readings are one. -/
theorem q2parse_same (s : ByteArray) (n : Int) : q2parseV s.data.toList n = pParseV s n := by
  by_cases hn : n < 1 ∨ n > 3
  · unfold q2parseV pParseV parseV; rw [if_pos hn, if_pos hn]
  · by_cases hz : (pParseV s n).2 = 0
    · have hp : pParseV s n = ((pParseV s n).1, 0) := by rw [← hz]
      obtain ⟨hok, hf, h1, h3, hs⟩ := pparse_good hp
      generalize (pParseV s n).1 = t at *
      rw [hp]
      obtain ⟨st, hk, ht⟩ := qfold_text hok h1 h3 hf
      unfold q2parseV
      rw [if_neg hn, hs, hk]
      simp only
      rw [ht, if_pos ⟨hf, rfl⟩]
    · have hb : pParseV s n = (tm0, 11) := parse_bad (by omega) (by omega) hz
      rw [hb]
      unfold q2parseV
      rw [if_neg hn]
      cases hr : qfold (0, [], [], []) s.data.toList with
      | none => rfl
      | some st =>
        simp only
        rw [if_neg]
        intro ⟨hf, hs⟩
        have hp := pparse_text (q2tm_ok st.2) (by omega) (by omega) hf
        rw [hs] at hp
        have : (⟨s.data.toList.toArray⟩ : ByteArray) = s := by cases s; rfl
        rw [this] at hp
        rw [hp] at hz
        exact hz rfl
end Go.Proofs.YtiiegpklpmogmaaGreatDoor
