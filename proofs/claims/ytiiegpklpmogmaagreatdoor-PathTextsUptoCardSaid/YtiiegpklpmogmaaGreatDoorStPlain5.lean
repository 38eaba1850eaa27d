/- Texts there and back, in plain Lean. No program in sight. -/
import Derived.Test.YtiiegpklpmogmaaGreatDoorStPlain2
import Derived.Test.YtiiegpklpmogmaaGreatDoorStPlain4
import Derived.Lib.SplitLaws
import Derived.Lib.ParseIntBCases
set_option linter.unusedVariables false
set_option linter.unusedSimpArgs false
namespace Go.Proofs.YtiiegpklpmogmaaGreatDoor

/-! ### Numerals -/
theorem ba_app (a b : List UInt8) : ((⟨a.toArray⟩ : ByteArray) ++ ⟨b.toArray⟩) = ⟨(a ++ b).toArray⟩ := by
  apply ByteArray.ext
  simp
def isDig (c : UInt8) : Prop := 48 ≤ c.toNat ∧ c.toNat ≤ 57
instance (c : UInt8) : Decidable (isDig c) := inferInstanceAs (Decidable (_ ∧ _))
def valFrom (acc : Nat) (l : List UInt8) : Nat := l.foldl (fun a c => a * 10 + (c.toNat - 48)) acc

theorem dig_nat (i : Nat) (h : i < 10) : (UInt8.ofNat (48 + i)).toNat = 48 + i := by
  rw [UInt8.toNat_ofNat']; omega
theorem dec_digits (u : Nat) : ∀ c ∈ Lib.decDigits u, isDig c := by
  induction u using Nat.strongRecOn with
  | _ u ih =>
    intro c hc
    rw [Lib.decDigits] at hc
    split at hc
    · rename_i h
      rw [List.mem_singleton] at hc; subst hc
      unfold isDig
      rw [dig_nat u h]; omega
    · rename_i h
      rcases List.mem_append.1 hc with hc | hc
      · exact ih (u / 10) (by omega) c hc
      · rw [List.mem_singleton] at hc; subst hc
        unfold isDig
        rw [dig_nat (u % 10) (by omega)]; omega
theorem dec_val (u : Nat) : valFrom 0 (Lib.decDigits u) = u := by
  induction u using Nat.strongRecOn with
  | _ u ih =>
    rw [Lib.decDigits]
    split
    · rename_i h
      simp only [valFrom, List.foldl_cons, List.foldl_nil]
      rw [dig_nat u h]; omega
    · rename_i h
      unfold valFrom
      rw [List.foldl_append]
      have := ih (u / 10) (by omega)
      unfold valFrom at this
      rw [this]
      simp only [List.foldl_cons, List.foldl_nil]
      rw [dig_nat (u % 10) (by omega)]; omega
theorem dec_ne_nil (u : Nat) : Lib.decDigits u ≠ [] := fun e => by
  have := Lib.decDigits_length u
  rw [e] at this
  have := Lib.nDigits_pos u
  simp at *
  omega
/-- No numeral but "0" begins with a zero. -/
theorem dec_zero (u : Nat) (r : List UInt8) (h : Lib.decDigits u = 48 :: r) : r = [] := by
  induction u using Nat.strongRecOn generalizing r with
  | _ u ih =>
    by_cases hu : u < 10
    · rw [Lib.decDigits_one hu] at h
      injection h with _ h2
      exact h2.symm
    · exfalso
      rw [Lib.decDigits, dif_neg hu] at h
      cases hd : Lib.decDigits (u / 10) with
      | nil => exact dec_ne_nil _ hd
      | cons d ds =>
        rw [hd] at h
        injection h with h1 h2
        subst h1
        have h3 := ih (u / 10) (by omega) ds hd
        subst h3
        have h4 := dec_val (u / 10)
        rw [hd] at h4
        simp [valFrom] at h4
        omega
theorem val_mono (l : List UInt8) : ∀ acc, acc ≤ valFrom acc l := by
  induction l with
  | nil => intro acc; exact Nat.le_refl _
  | cons c r ih =>
    intro acc
    have := ih (acc * 10 + (c.toNat - 48))
    simp only [valFrom, List.foldl_cons] at this ⊢
    omega
theorem parse_val (l : List UInt8) : ∀ acc, (∀ c ∈ l, isDig c) → valFrom acc l ≤ 18446744073709551615 → Lib.parseUintM (2 ^ 64 - 1) acc l = .ok (valFrom acc l) := by
  induction l with
  | nil => intro acc _ _; rfl
  | cons c r ih =>
    intro acc hd hv
    have hc := hd c List.mem_cons_self
    have h1 : valFrom acc (c :: r) = valFrom (acc * 10 + (c.toNat - 48)) r := rfl
    have h2 := val_mono r (acc * 10 + (c.toNat - 48))
    rw [h1] at hv ⊢
    unfold Lib.parseUintM
    have hc' : 48 ≤ c.toNat ∧ c.toNat ≤ 57 := hc
    rw [if_pos hc', if_neg (by omega), if_neg (by omega)]
    exact ih _ (fun x hx => hd x (List.mem_cons_of_mem _ hx)) hv
theorem dec_parse (u : Nat) (h : u < 18446744073709551616) : Lib.parseUintB 64 (Lib.decDigits u) = .ok u := by
  unfold Lib.parseUintB
  rw [if_neg (dec_ne_nil u), parse_val _ 0 (dec_digits u) (by rw [dec_val]; omega), dec_val]

theorem word1_some {x : ByteArray} {u : Nat} (h : word1 x = some u) : x.data.toList = Lib.decDigits u ∧ u < 18446744073709551616 := by
  unfold word1 at h
  split at h
  · rename_i v hv
    split at h
    · rename_i he
      injection h with h; subst h
      refine ⟨by rw [← he], ?_⟩
      have := Lib.parseUintB_le hv; omega
    · cases h
  · cases h
theorem word1_dec (u : Nat) (h : u < 18446744073709551616) : word1 ⟨(Lib.decDigits u).toArray⟩ = some u := by
  unfold word1
  rw [show (⟨(Lib.decDigits u).toArray⟩ : ByteArray).data.toList = Lib.decDigits u from rfl, dec_parse u h]
  simp

/-! ### Words -/
/-- The words between the points. -/
def spl : List UInt8 → List (List UInt8)
  | [] => [[]]
  | c :: r => if c = 46 then [] :: spl r else match spl r with
    | x :: xs => (c :: x) :: xs
    | [] => [[c]]
theorem spl_ne (l : List UInt8) : spl l ≠ [] := by
  cases l with
  | nil => simp [spl]
  | cons c r => unfold spl; split <;> (try split) <;> simp
theorem splitK_spl (s : List UInt8) : Lib.splitK [46] 0 (Lib.count s [46]) s = spl s := by
  induction s with
  | nil => rfl
  | cons c r ih =>
    by_cases hc : c = 46
    · subst hc
      rw [Lib.count_cons_eq, Nat.add_comm]
      unfold Lib.splitK spl
      have hi : Lib.index (46 :: r) [46] = 0 := by rw [Lib.index]; simp [List.isPrefixOf]
      rw [hi]
      simp [ih]
    · rw [Lib.count_cons_ne c 46 r hc]
      have hi : Lib.index (c :: r) [46] = if Lib.index r [46] == -1 then -1 else Lib.index r [46] + 1 := by
        have hp : ([46] : List UInt8).isPrefixOf (c :: r) = false := by simp [List.isPrefixOf, Ne.symm hc]
        rw [Lib.index, hp]; simp
      have hge := Lib.index_ge r [46]
      unfold spl
      rw [if_neg hc, ← ih]
      cases Lib.count r [46] with
      | zero => rfl
      | succ k =>
        unfold Lib.splitK
        rw [hi]
        by_cases hm : Lib.index r [46] = -1
        · simp [hm]
        · have h2 : ¬ (Lib.index r [46] + 1 = -1) := by omega
          have h3 : (Lib.index r [46] + 1).toNat = (Lib.index r [46]).toNat + 1 := by omega
          simp [hm, h2, h3, Nat.add_right_comm]
theorem words_spl (s : ByteArray) : (wordsOf s).map (·.data.toList) = spl s.data.toList := by
  unfold wordsOf
  rw [Lib.splitB_data]
  exact splitK_spl _
theorem spl_join (l : List UInt8) : Lib.join (spl l) [46] = l := by
  induction l with
  | nil => rfl
  | cons c r ih =>
    unfold spl
    split
    · rename_i hc
      subst hc
      cases hs : spl r with
      | nil => exact absurd hs (spl_ne r)
      | cons x xs =>
        rw [hs] at ih
        rw [Lib.join_cons] at ih ⊢
        simp only [Lib.joinTail, List.map_cons, List.flatten_cons, List.nil_append] at ih ⊢
        rw [List.append_assoc, ih]; rfl
    · split
      · rename_i x xs hs
        rw [hs, Lib.join_cons] at ih
        rw [Lib.join_cons, List.cons_append, ih]
      · rename_i hs
        exact absurd hs (spl_ne r)
theorem spl_app (x r : List UInt8) (h : (46 : UInt8) ∉ x) : spl (x ++ 46 :: r) = x :: spl r := by
  induction x with
  | nil => simp [spl]
  | cons c x ih =>
    have hc : ¬ c = 46 := fun e => h (by simp [e])
    simp only [List.cons_append, spl, if_neg hc]
    rw [ih (fun hm => h (List.mem_cons_of_mem _ hm))]
theorem spl_one (x : List UInt8) (h : (46 : UInt8) ∉ x) : spl x = [x] := by
  induction x with
  | nil => rfl
  | cons c x ih =>
    have hc : ¬ c = 46 := fun e => h (by simp [e])
    simp only [spl, if_neg hc]
    rw [ih (fun hm => h (List.mem_cons_of_mem _ hm))]
theorem dec_nodot (u : Nat) : (46 : UInt8) ∉ Lib.decDigits u := fun h => by
  have := dec_digits u _ h
  unfold isDig at this
  simp at this
theorem spl_join_back (us : List Nat) (h : us ≠ []) : spl (Lib.join (us.map Lib.decDigits) [46]) = us.map Lib.decDigits := by
  induction us with
  | nil => exact absurd rfl h
  | cons u us ih =>
    cases us with
    | nil => simp only [List.map_cons, List.map_nil, Lib.join_one]; exact spl_one _ (dec_nodot u)
    | cons v vs =>
      have h1 := ih (by simp)
      have e : Lib.join ((u :: v :: vs).map Lib.decDigits) [46] = Lib.decDigits u ++ 46 :: Lib.join ((v :: vs).map Lib.decDigits) [46] := by
        simp only [List.map_cons, Lib.join_cons, Lib.joinTail, List.map_cons, List.flatten_cons]
        simp
      rw [e, spl_app _ _ (dec_nodot u), h1]
      rfl

/-! ### A text's numbers -/
def natsOf (t : Tm) (n : Nat) : List Nat := ((nums t).take n).map Int.toNat
theorem text_nats (t : Tm) (n : Nat) : textV t n = Lib.join ((natsOf t n).map Lib.decDigits) [46] := by
  unfold textV natsOf decI
  rw [List.map_map]; rfl
theorem mapM_words : ∀ (xs : List ByteArray) (us : List Nat), xs.mapM word1 = some us → xs.map (·.data.toList) = us.map Lib.decDigits ∧ ∀ u ∈ us, u < 18446744073709551616 := by
  intro xs
  induction xs with
  | nil => intro us h; simp at h; subst h; simp
  | cons x xs ih =>
    intro us h
    rw [List.mapM_cons] at h
    cases h1 : word1 x with
    | none => rw [h1] at h; cases h
    | some u =>
      cases h2 : xs.mapM word1 with
      | none => rw [h1, h2] at h; cases h
      | some vs =>
        rw [h1, h2] at h
        have h : some (u :: vs) = some us := h
        injection h with h; subst h
        obtain ⟨a, b⟩ := ih vs h2
        obtain ⟨c, d⟩ := word1_some h1
        refine ⟨by simp [a, c], fun v hv => ?_⟩
        rcases List.mem_cons.1 hv with rfl | hv
        · exact d
        · exact b v hv
theorem words_mapM : ∀ (xs : List ByteArray) (us : List Nat), xs.map (·.data.toList) = us.map Lib.decDigits → (∀ u ∈ us, u < 18446744073709551616) → xs.mapM word1 = some us := by
  intro xs
  induction xs with
  | nil => intro us h _; cases us with
    | nil => rfl
    | cons u us => simp at h
  | cons x xs ih =>
    intro us h hu
    cases us with
    | nil => simp at h
    | cons u us =>
      simp only [List.map_cons, List.cons.injEq] at h
      have h1 : word1 x = some u := by
        have e : x = ⟨(Lib.decDigits u).toArray⟩ := by
          obtain ⟨⟨l⟩⟩ := x
          have := h.1
          simp only at this
          rw [this]
        rw [e]
        exact word1_dec u (hu u List.mem_cons_self)
      have h2 := ih us h.2 fun v hv => hu v (List.mem_cons_of_mem _ hv)
      rw [List.mapM_cons, h1, h2]; rfl

/-- What Parse accepts is the text of what it tells. -/
theorem parse_good {s : ByteArray} {n : Int} {t : Tm} (h : parseV s n = (t, 0)) : t.ok ∧ fitsV t.a t.b t.c n = 0 ∧ 1 ≤ n ∧ n ≤ 3 ∧ s.data.toList = textV t n.toNat := by
  unfold parseV at h
  split at h
  · cases h
  · rename_i hn
    split at h
    · cases h
    · rename_i hl
      split at h
      · rename_i us hus
        injection h with h1 _
        obtain ⟨hw, hb⟩ := mapM_words _ _ hus
        have hlen : us.length = n.toNat := by
          have := congrArg List.length hw
          simp at this
          omega
        rw [words_spl] at hw
        have hs : s.data.toList = Lib.join (us.map Lib.decDigits) [46] := by rw [← hw, spl_join]
        subst h1
        have hn' : n.toNat = 1 ∨ n.toNat = 2 ∨ n.toNat = 3 := by omega
        refine ⟨?_, ?_, by omega, by omega, ?_⟩
        · rcases hn' with e | e | e <;> rw [e] at hlen
          · match us, hlen, hb with
            | [u], _, hb => have := hb u (by simp); simp [Tm.ok, tmOf]; omega
          · match us, hlen, hb with
            | [u, v], _, hb => have := hb u (by simp); have := hb v (by simp); simp [Tm.ok, tmOf]; omega
          · match us, hlen, hb with
            | [u, v, x], _, hb => have := hb u (by simp); have := hb v (by simp); have := hb x (by simp); simp [Tm.ok, tmOf]; omega
        · rcases hn' with e | e | e <;> rw [e] at hlen
          · match us, hlen with
            | [u], _ => obtain rfl : n = 1 := by omega
                        simp [fitsV, tmOf]
          · match us, hlen with
            | [u, v], _ => obtain rfl : n = 2 := by omega
                           simp [fitsV, tmOf]
          · match us, hlen with
            | [u, v, x], _ => obtain rfl : n = 3 := by omega
                              simp [fitsV, tmOf]
        · rw [hs, text_nats]
          congr 2
          rcases hn' with e | e | e <;> rw [e] at hlen ⊢
          · match us, hlen with
            | [u], _ => simp [natsOf, nums, tmOf]
          · match us, hlen with
            | [u, v], _ => simp [natsOf, nums, tmOf]
          · match us, hlen with
            | [u, v, x], _ => simp [natsOf, nums, tmOf]
      · cases h
/-- A time's text is read back. -/
theorem parse_text {t : Tm} {n : Int} (hok : t.ok) (h1 : 1 ≤ n) (h3 : n ≤ 3) (hf : fitsV t.a t.b t.c n = 0) : parseV ⟨(textV t n.toNat).toArray⟩ n = (t, 0) := by
  unfold parseV
  rw [if_neg (by omega)]
  have hw := words_spl ⟨(textV t n.toNat).toArray⟩
  rw [show (⟨(textV t n.toNat).toArray⟩ : ByteArray).data.toList = textV t n.toNat from rfl] at hw
  have hnl : (natsOf t n.toNat).length = n.toNat := by simp [natsOf, nums]; omega
  rw [text_nats, spl_join_back _ (by intro e; rw [e] at hnl; simp at hnl; omega)] at hw
  have hl : (wordsOf ⟨(textV t n.toNat).toArray⟩).length = n.toNat := by
    have := congrArg List.length hw
    simp [hnl] at this
    rw [text_nats]
    exact this
  rw [if_neg (by rw [hl]; omega)]
  have hb : ∀ u ∈ natsOf t n.toNat, u < 18446744073709551616 := by
    intro u hu
    unfold natsOf at hu
    obtain ⟨y, hy, rfl⟩ := List.mem_map.1 hu
    have hy' := List.mem_of_mem_take hy
    obtain ⟨⟨a1, a2⟩, ⟨b1, b2⟩, ⟨c1, c2⟩⟩ := hok
    simp only [nums, List.mem_cons, List.mem_nil_iff, or_false] at hy'
    rcases hy' with rfl | rfl | rfl <;> omega
  rw [← text_nats] at hw
  rw [words_mapM _ _ hw hb]
  have hn' : n = 1 ∨ n = 2 ∨ n = 3 := by omega
  obtain ⟨a, b, c⟩ := t
  obtain ⟨⟨a1, a2⟩, ⟨b1, b2⟩, ⟨c1, c2⟩⟩ := hok
  rcases hn' with rfl | rfl | rfl
  · simp [fitsV] at hf
    simp at a1
    simp [natsOf, nums, tmOf]
    omega
  · simp [fitsV] at hf
    simp at a1 b1
    simp [natsOf, nums, tmOf]
    omega
  · simp at a1 b1 c1
    simp [natsOf, nums, tmOf]
    omega
/-- What Parse refuses is no time's text. -/
theorem parse_bad {s : ByteArray} {n : Int} (h1 : 1 ≤ n) (h3 : n ≤ 3) (h : (parseV s n).2 ≠ 0) : parseV s n = (tm0, 11) := by
  revert h
  unfold parseV
  rw [if_neg (by omega)]
  split
  · intro _; rfl
  · split
    · intro h; exact absurd rfl h
    · intro _; rfl
end Go.Proofs.YtiiegpklpmogmaaGreatDoor
