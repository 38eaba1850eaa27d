/- stamp.Parse, walked. -/
import Derived.Test.YtiiegpklpmogmaaGreatDoorSt7
import Derived.Test.YtiiegpklpmogmaaGreatDoorStPlain2
import Derived.Lib.SplitLaws
set_option linter.unusedVariables false
set_option linter.unusedSimpArgs false
namespace Go.Proofs.YtiiegpklpmogmaaGreatDoor
open Go.RowKit

theorem word_cases (x : ByteArray) : (∃ u, Lib.parseUintB 64 x.data.toList = .ok u ∧ word1 x = (if (⟨(Lib.decDigits u).toArray⟩ : ByteArray) = x then some u else none)) ∨ ((Lib.parseUintB 64 x.data.toList = Lib.parseUintB 64 [] ∨ Lib.parseUintB 64 x.data.toList = .range) ∧ word1 x = none) := by
  unfold word1
  cases h : Lib.parseUintB 64 x.data.toList
  · exact .inl ⟨_, rfl, rfl⟩
  · exact .inr ⟨.inl rfl, rfl⟩
  · exact .inr ⟨.inr rfl, rfl⟩

theorem pu_ok (x : ByteArray) (hx : x.size < 4294967281) (u : Nat) (h : Lib.parseUintB 64 x.data.toList = .ok u) (w : World) :
    Calls Tryz.prog 87 #[.string x, .int .i64 10, .int .i64 64] w fun e w' => e = .returned (.tuple #[.int .u64 u, .nilIface]) ∧ Below w.heap.size w w' :=
  (Tryz.strconv_ParseUint_10_at64_ok x (by omega) u h w).mono fun e w' ⟨he, hw⟩ => ⟨he, by
    rcases hw with rfl | rfl
    · exact Below.refl _ _
    · exact Lib.bytesWorld_below _ _ _⟩

theorem pu_err (x : ByteArray) (hx : x.size < 4294967281) (h : Lib.parseUintB 64 x.data.toList = Lib.parseUintB 64 [] ∨ Lib.parseUintB 64 x.data.toList = .range) (w : World) (hg : Glob w) :
    Calls Tryz.prog 87 #[.string x, .int .i64 10, .int .i64 64] w fun e w' => ∃ (v : Int) (N : Nat) (T : TypeId), e = .returned (.tuple #[.int .u64 v, .iface T (.pointer (some ⟨N, 0, none⟩))]) ∧ Below w.heap.size w w' := by
  rcases h with h | h
  · obtain ⟨te, pe, hv⟩ := hg.syn
    exact (Tryz.strconv_ParseUint_10_at64_syntax x (by omega) h _ w hv (.inr ⟨te, pe, rfl⟩)).mono fun e w' ⟨N, he, _, _, hb⟩ => ⟨0, N, _, he, hb⟩
  · obtain ⟨te, pe, hv⟩ := hg.rng
    exact (Tryz.strconv_ParseUint_10_at64_range x (by omega) h _ w hv (.inr ⟨te, pe, rfl⟩)).mono fun e w' ⟨N, he, _, _, hb⟩ => ⟨_, N, _, he, hb⟩

theorem split_at (s : ByteArray) (hs : s.size < 4294967281) (w : World) (hg : Glob w) :
    Calls Tryz.prog 86 #[.string s, .string ⟨#[46]⟩] w fun e w' => e = .returned (.slice (some ⟨w.heap.size, 0, none⟩) (wordsOf s).length (wordsOf s).length) ∧ w' = w.alloc (.cells ((wordsOf s).map Value.string).toArray 9) := by
  obtain ⟨m, hm⟩ := hg.len
  have h := Tryz.strings_Split s ⟨#[46]⟩ m w hs hm (by decide)
  have hl : (wordsOf s).length = Lib.countB s ⟨#[46]⟩ + 1 := Lib.splitB_all ⟨#[46]⟩ (by decide) 0 _ s rfl
  rw [hl]
  exact h
theorem split_size (sep : ByteArray) (save : Nat) : ∀ (k : Nat) (s : ByteArray), ∀ x ∈ Lib.splitB sep save k s, x.size ≤ s.size
  | 0, s, x, hx => by simp [Lib.splitB] at hx; subst hx; exact Nat.le_refl _
  | k + 1, s, x, hx => by
    unfold Lib.splitB at hx
    split at hx
    · simp at hx; subst hx; exact Nat.le_refl _
    · rcases List.mem_cons.1 hx with rfl | hx
      · rw [ByteArray.size_extract]; omega
      · have := split_size sep save k _ x hx
        rw [ByteArray.size_extract] at this; omega
theorem words_size (s : ByteArray) : ∀ x ∈ wordsOf s, x.size ≤ s.size := split_size _ _ _ s

set_option maxHeartbeats 1000000 in
theorem parse_arity (s : ByteArray) (n : Int) (w : World) (h : n < 1 ∨ n > 3) :
    Calls Tryz.prog 54 #[.string s, .int .i64 n] w fun e w' => e = .returned (.tuple #[tmV tm0, .int .i64 10]) ∧ Below w.heap.size w w' := by
  by_cases h1 : n < 1
  · clear h
    go_enter Tryz.func54, Tryz.ntmps54
    go_wp2
    (refine bodyPost_ret (v := .tuple #[.agg #[.int .u64 0, .int .u64 0, .int .u64 0], .int .i64 10]) (by simp [results, Tryz.results54, go_sem]) rfl ⟨rfl, by (repeat first | exact Below.refl _ _ | assumption | refine Bel.alloc' ?_ _ | refine Bel.drewN ?_ _ | refine Below.drew ?_ | refine Bel.step' ?_ (by assumption))⟩)
  · have h2 : n > 3 := by omega
    clear h
    go_enter Tryz.func54, Tryz.ntmps54
    go_wp2
    (refine bodyPost_ret (v := .tuple #[.agg #[.int .u64 0, .int .u64 0, .int .u64 0], .int .i64 10]) (by simp [results, Tryz.results54, go_sem]) rfl ⟨rfl, by (repeat first | exact Below.refl _ _ | assumption | refine Bel.alloc' ?_ _ | refine Bel.drewN ?_ _ | refine Below.drew ?_ | refine Bel.step' ?_ (by assumption))⟩)

set_option maxHeartbeats 1000000 in
theorem parse_count (s : ByteArray) (n : Int) (w : World) (hg : Glob w) (hs : s.size < 4294967281) (h1 : ¬ n < 1) (h3 : ¬ n > 3) (hl : ((wordsOf s).length : Int) ≠ n) :
    Calls Tryz.prog 54 #[.string s, .int .i64 n] w fun e w' => e = .returned (.tuple #[tmV tm0, .int .i64 11]) ∧ Below w.heap.size w w' := by
  have CS := Lib.hid (fun W hW => split_at s hs W (hg.below hW))
  have t1 : (((wordsOf s).length : Int) != n) = true := by simpa using hl
  generalize (wordsOf s).length = m at CS t1
  clear hl hg
  go_enter Tryz.func54, Tryz.ntmps54
  go_wp2_with (go_at_call 86; refine (CS.out _ (by (repeat first | exact Below.refl _ _ | assumption | refine Bel.alloc' ?_ _ | refine Bel.drewN ?_ _ | refine Below.drew ?_ | refine Bel.step' ?_ (by assumption)))).mono ?_; rintro e w1 ⟨rfl, rfl⟩)
  go_goals
  (refine bodyPost_ret (v := .tuple #[.agg #[.int .u64 0, .int .u64 0, .int .u64 0], .int .i64 11]) (by simp [results, Tryz.results54, go_sem]) rfl ⟨rfl, by (repeat first | exact Below.refl _ _ | assumption | refine Bel.alloc' ?_ _ | refine Bel.drewN ?_ _ | refine Below.drew ?_ | refine Bel.step' ?_ (by assumption))⟩)
end Go.Proofs.YtiiegpklpmogmaaGreatDoor
