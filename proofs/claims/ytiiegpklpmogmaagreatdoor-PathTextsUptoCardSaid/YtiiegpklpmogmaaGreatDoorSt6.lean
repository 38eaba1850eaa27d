/- stamp.Fits, strconv.FormatUint, walked. -/
import Derived.Test.YtiiegpklpmogmaaGreatDoorSt5
import Derived.Test.YtiiegpklpmogmaaGreatDoorShelf
import Derived.Lib.AppendIntMem
set_option linter.unusedVariables false
set_option linter.unusedSimpArgs false
namespace Go.Proofs.YtiiegpklpmogmaaGreatDoor
open Go.RowKit

set_option maxHeartbeats 1000000 in
theorem fits_1 (a b c : Int) (w : World) :
    Calls Tryz.prog 29 #[.agg #[.int .u64 a, .int .u64 b, .int .u64 c], .int .i64 1] w fun e w' => e = .returned (.int .i64 (fitsV a b c 1)) ∧ Below w.heap.size w w' := by
  have hv : fitsV a b c 1 = if b ≠ 0 then 10 else if c ≠ 0 then 10 else 0 := by
    unfold fitsV; by_cases h1 : b = 0 <;> by_cases h2 : c = 0 <;> simp [h1, h2]
  rw [hv]; clear hv
  by_cases h1 : b = 0
  · subst h1
    by_cases h2 : c = 0
    · subst h2
      go_enter Tryz.func29, Tryz.ntmps29
      go_wp2_with (go_at_call 65; refine (numbers_at _ _ _ _).mono ?_; rintro e w1 ⟨rfl, hb1⟩)
      refine wp_loop_rounds 3 ?_
      iterate 3 (rw [rounds_succ]; go_wp2)
      go_ret
      exact ⟨by simp, by (repeat first | exact Below.refl _ _ | assumption | refine Bel.alloc' ?_ _ | refine Bel.drewN ?_ _ | refine Below.drew ?_ | refine Bel.step' ?_ (by assumption))⟩
    · have h3 : (c != 0) = true := by simpa using h2
      go_enter Tryz.func29, Tryz.ntmps29
      go_wp2_with (go_at_call 65; refine (numbers_at _ _ _ _).mono ?_; rintro e w1 ⟨rfl, hb1⟩)
      refine wp_loop_rounds 3 ?_
      iterate 2 (rw [rounds_succ]; go_wp2)
      go_ret
      exact ⟨by simp [h2], by (repeat first | exact Below.refl _ _ | assumption | refine Bel.alloc' ?_ _ | refine Bel.drewN ?_ _ | refine Below.drew ?_ | refine Bel.step' ?_ (by assumption))⟩
  · have h3 : (b != 0) = true := by simpa using h1
    go_enter Tryz.func29, Tryz.ntmps29
    go_wp2_with (go_at_call 65; refine (numbers_at _ _ _ _).mono ?_; rintro e w1 ⟨rfl, hb1⟩)
    refine wp_loop_rounds 3 ?_
    rw [rounds_succ]; go_wp2
    go_ret
    exact ⟨by simp [h1], by (repeat first | exact Below.refl _ _ | assumption | refine Bel.alloc' ?_ _ | refine Bel.drewN ?_ _ | refine Below.drew ?_ | refine Bel.step' ?_ (by assumption))⟩

set_option maxHeartbeats 1000000 in
theorem fits_2 (a b c : Int) (w : World) :
    Calls Tryz.prog 29 #[.agg #[.int .u64 a, .int .u64 b, .int .u64 c], .int .i64 2] w fun e w' => e = .returned (.int .i64 (fitsV a b c 2)) ∧ Below w.heap.size w w' := by
  have hv : fitsV a b c 2 = if c ≠ 0 then 10 else 0 := by
    unfold fitsV; by_cases h2 : c = 0 <;> simp [h2]
  rw [hv]; clear hv
  by_cases h2 : c = 0
  · subst h2
    go_enter Tryz.func29, Tryz.ntmps29
    go_wp2_with (go_at_call 65; refine (numbers_at _ _ _ _).mono ?_; rintro e w1 ⟨rfl, hb1⟩)
    refine wp_loop_rounds 2 ?_
    iterate 2 (rw [rounds_succ]; go_wp2)
    go_ret
    exact ⟨by simp, by (repeat first | exact Below.refl _ _ | assumption | refine Bel.alloc' ?_ _ | refine Bel.drewN ?_ _ | refine Below.drew ?_ | refine Bel.step' ?_ (by assumption))⟩
  · have h3 : (c != 0) = true := by simpa using h2
    go_enter Tryz.func29, Tryz.ntmps29
    go_wp2_with (go_at_call 65; refine (numbers_at _ _ _ _).mono ?_; rintro e w1 ⟨rfl, hb1⟩)
    refine wp_loop_rounds 2 ?_
    rw [rounds_succ]; go_wp2
    go_ret
    exact ⟨by simp [h2], by (repeat first | exact Below.refl _ _ | assumption | refine Bel.alloc' ?_ _ | refine Bel.drewN ?_ _ | refine Below.drew ?_ | refine Bel.step' ?_ (by assumption))⟩

set_option maxHeartbeats 1000000 in
theorem fits_3 (a b c : Int) (w : World) :
    Calls Tryz.prog 29 #[.agg #[.int .u64 a, .int .u64 b, .int .u64 c], .int .i64 3] w fun e w' => e = .returned (.int .i64 (fitsV a b c 3)) ∧ Below w.heap.size w w' := by
  have hv : fitsV a b c 3 = 0 := by unfold fitsV; simp
  rw [hv]; clear hv
  go_enter Tryz.func29, Tryz.ntmps29
  go_wp2_with (go_at_call 65; refine (numbers_at _ _ _ _).mono ?_; rintro e w1 ⟨rfl, hb1⟩)
  refine wp_loop_rounds 1 ?_
  rw [rounds_succ]; go_wp2
  go_ret
  exact ⟨by simp, by (repeat first | exact Below.refl _ _ | assumption | refine Bel.alloc' ?_ _ | refine Bel.drewN ?_ _ | refine Below.drew ?_ | refine Bel.step' ?_ (by assumption))⟩

set_option maxHeartbeats 1000000 in
theorem fits_out (a b c n : Int) (w : World) (h : n < 1 ∨ n > 3) :
    Calls Tryz.prog 29 #[.agg #[.int .u64 a, .int .u64 b, .int .u64 c], .int .i64 n] w fun e w' => e = .returned (.int .i64 (fitsV a b c n)) ∧ Below w.heap.size w w' := by
  have hv : fitsV a b c n = 10 := by unfold fitsV; simp [h]
  rw [hv]; clear hv
  by_cases h1 : n < 1
  · clear h
    go_enter Tryz.func29, Tryz.ntmps29
    go_wp2
    go_ret
    exact ⟨rfl, by (repeat first | exact Below.refl _ _ | assumption | refine Bel.alloc' ?_ _ | refine Bel.drewN ?_ _ | refine Below.drew ?_ | refine Bel.step' ?_ (by assumption))⟩
  · have h2 : n > 3 := by omega
    clear h
    go_enter Tryz.func29, Tryz.ntmps29
    go_wp2
    go_ret
    exact ⟨rfl, by (repeat first | exact Below.refl _ _ | assumption | refine Bel.alloc' ?_ _ | refine Bel.drewN ?_ _ | refine Below.drew ?_ | refine Bel.step' ?_ (by assumption))⟩

/-- stamp.Fits. -/
theorem fits_any (a b c n : Int) (w : World) :
    Calls Tryz.prog 29 #[.agg #[.int .u64 a, .int .u64 b, .int .u64 c], .int .i64 n] w fun e w' => e = .returned (.int .i64 (fitsV a b c n)) ∧ Below w.heap.size w w' := by
  by_cases h : n < 1 ∨ n > 3
  · exact fits_out a b c n w h
  · obtain h | h | h : n = 1 ∨ n = 2 ∨ n = 3 := by omega
    · subst h; exact fits_1 a b c w
    · subst h; exact fits_2 a b c w
    · subst h; exact fits_3 a b c w


/-! ### What the walks know of the library's variables -/

/-- The tables and sentinels stand. -/
structure Glob (w : World) : Prop where
  tab : Lib.TabIs Tryz.prog w "internal/strconv.uint64pow10" .u64 Lib.pow10Tab
  syn : ∃ te pe, w.cell? ⟨2, 0, none⟩ = some (.iface te pe)
  rng : ∃ te pe, w.cell? ⟨3, 0, none⟩ = some (.iface te pe)
  len : ∃ m, w.cell? ⟨0, 0, none⟩ = some (.int .i64 m)
  big : 8 < w.heap.size

theorem Glob.below {w w' : World} (h : Glob w) (hb : Below w.heap.size w w') : Glob w' := by
  have hbig := h.big
  refine ⟨?_, ?_, ?_, ?_, Nat.lt_of_lt_of_le hbig hb.size⟩
  · have ht := h.tab
    unfold Lib.TabIs World.var? at *
    cases hg : Tryz.prog.globalNamed "internal/strconv.uint64pow10" with
    | none => simp [hg] at ht
    | some g =>
      simp only [hg, Option.bind_some] at ht ⊢
      have hlt : g < w.heap.size := by
        rcases Nat.lt_or_ge g w.heap.size with h' | h'
        · exact h'
        · rw [Array.getElem?_eq_none h'] at ht; simp at ht
      rw [hb.block g hlt]
      exact ht
  · obtain ⟨a, b, e⟩ := h.syn; exact ⟨a, b, by rw [(Bel.cells hb).1 _ _ (by omega)]; exact e⟩
  · obtain ⟨a, b, e⟩ := h.rng; exact ⟨a, b, by rw [(Bel.cells hb).1 _ _ (by omega)]; exact e⟩
  · obtain ⟨a, e⟩ := h.len; exact ⟨a, by rw [(Bel.cells hb).1 _ _ (by omega)]; exact e⟩

set_option maxHeartbeats 4000000 in
set_option maxRecDepth 100000 in
/-- internal/strconv.FormatUint at base 10. -/
theorem ifmt_at (u : Nat) (hu : u < 18446744073709551616) (w : World) (hg : Glob w) :
    Calls Tryz.prog 100 #[.int .u64 u, .int .i64 10] w fun e w' => e = .returned (.string ⟨(Lib.decDigits u).toArray⟩) ∧ Below w.heap.size w w' := by
  by_cases hs : u < 100
  · have h1 : (u : Int) < 100 := by omega
    have e1 : IntKind.i64.wrap (u : Int) = u := by rw [IntKind.wrap_i64]; omega
    go_enter Tryz.func100, Tryz.ntmps100
    go_wp2_with (go_at_call 130; refine (Tryz.internal_strconv_small u hs _).mono ?_; rintro e w1 ⟨rfl, rfl⟩)
    go_ret
    exact ⟨rfl, Below.refl _ _⟩
  · have h1 : ¬ (u : Int) < 100 := by omega
    have hu1 : 1 ≤ u := by omega
    have hnd20 : Lib.nDigits u ≤ 20 := by have := Lib.numDigits_eq u hu1 hu; split at this <;> omega
    have hal : Tryz.prog.arrayLen 152 = 24 := by simp [Program.arrayLen, Tryz.underlying152]
    have hsl : ∀ W, (Instr.sliceAt 152 (.pointer (some ⟨w.heap.size, 0, none⟩)) none (some (.int .i64 (Lib.nDigits u : Int))) none).run Tryz.prog W = .ok (.slice (some ⟨w.heap.size, 0, none⟩) (Lib.nDigits u) 24) W := fun W => by
      rw [run_sliceAt_array_h W 152 ⟨w.heap.size, 0, none⟩ (by simp [Program.arrayLen, Program.elem, Tryz.underlying152]) .i64 (Lib.nDigits u : Int) (by omega) (by rw [hal]; omega)]
      go_simp
    have hH0 := Lib.holds_zero0 w 152 (Lib.nDigits u) (by omega)
    have hfmt := Tryz.internal_strconv_formatBase10 w.heap.size 0 24 u (Array.replicate (Lib.nDigits u) 0) (w.alloc (.cells Lib.zeros24 152)) hH0 (by rw [Array.size_replicate]; exact Lib.lt_pow_nDigits u) hu (by rw [Array.size_replicate]; omega)
    rw [Array.size_replicate] at hfmt
    have HF := Lib.hid hfmt
    have HH0 := Lib.hid hH0
    have HT := Lib.hid hg.tab
    clear hH0 hal hfmt hg
    go_enter Tryz.func100, Tryz.ntmps100
    go_wp2_with (go_at_call 131; refine (Tryz.internal_strconv_numDigits u hu1 hu _ (Lib.tabIs_alloc HT.out _)).mono ?_; rintro e w1 ⟨rfl, rfl⟩)
    go_at_call 132
    refine HF.out.mono ?_
    rintro e w2 ⟨rfl, k, v', dk, rfl, hF⟩
    have hcv : (convert 121 9 (.slice (some ⟨w.heap.size, 0, none⟩) (Lib.nDigits u) 24)).run Tryz.prog ((Go.Sort.putRow (fun (b : UInt8) => Value.int .u8 (b.toNat : Int)) (w.alloc (.cells Lib.zeros24 152)) w.heap.size 0 dk).drewN k) = .ok (.string ⟨(Lib.decDigits u).toArray⟩) ((Go.Sort.putRow (fun (b : UInt8) => Value.int .u8 (b.toNat : Int)) (w.alloc (.cells Lib.zeros24 152)) w.heap.size 0 dk).drewN k) := by
      have h := run_convert_bytes_back (P := Tryz.prog) ((Go.Sort.putRow (fun (b : UInt8) => Value.int .u8 (b.toNat : Int)) (w.alloc (.cells Lib.zeros24 152)) w.heap.size 0 dk).drewN k) 121 9 5 ⟨w.heap.size, 0, none⟩ 24 (Lib.decDigits u) Tryz.underlying121 Tryz.underlying5 Tryz.underlying9 (fun j hj => by
        rw [Lib.row_is_numeral hF j hj, Lib.add_plain, World.cell?_drewN]
        exact Go.Sort.cell?_putRow (fun (b : UInt8) => Value.int .u8 (b.toNat : Int)) _ w.heap.size 0 _ dk HH0.out (by rw [hF.size, Array.size_replicate]) j (by rw [hF.size]; rw [Lib.decDigits_length] at hj; exact hj))
      rw [Lib.decDigits_length] at h
      exact h
    go_wp2
    go_ret
    obtain ⟨os, eo⟩ := Lib.fin_at w (.cells Lib.zeros24 152) dk k 0
    exact ⟨rfl, by rw [eo]; exact below_regrown w _ os⟩

set_option maxHeartbeats 1000000 in
/-- strconv.FormatUint at base 10. -/
theorem fmt_at (u : Nat) (hu : u < 18446744073709551616) (w : World) (hg : Glob w) :
    Calls Tryz.prog 84 #[.int .u64 u, .int .i64 10] w fun e w' => e = .returned (.string ⟨(Lib.decDigits u).toArray⟩) ∧ Below w.heap.size w w' := by
  have HC := Lib.hid (ifmt_at u hu w hg)
  clear hg
  go_enter Tryz.func84, Tryz.ntmps84
  go_wp2_with (go_at_call 100; refine HC.out.mono ?_; rintro e w1 ⟨rfl, hb1⟩)
  go_ret
  exact ⟨rfl, hb1⟩
end Go.Proofs.YtiiegpklpmogmaaGreatDoor
