/- The document's own answer for chapter 2: numbers, path, Compare, Ahead, Fits. -/
import Derived.Test.YtiiegpklpmogmaaGreatDoorPa6
import Derived.Test.YtiiegpklpmogmaaGreatDoorRefD
import Derived.Test.YtiiegpklpmogmaaGreatDoorFacts5
set_option linter.unusedVariables false
set_option linter.unusedSimpArgs false
namespace Go.Proofs.YtiiegpklpmogmaaGreatDoor
open Go.RowKit


set_option maxHeartbeats 1000000 in
theorem r2num_at (a b c : Int) (w : World) :
    Calls Tryz.prog 73 #[.agg #[.int .u64 a, .int .u64 b, .int .u64 c]] w fun e w' => ∃ g, e = .returned (.slice (some ⟨g, 0, none⟩) 3 3) ∧ Blk w' g #[.int .u64 a, .int .u64 b, .int .u64 c] 23 ∧ w.heap.size ≤ g ∧ Below w.heap.size w w' := by
  go_enter Tryz.func73, Tryz.ntmps73
  go_wp2
  go_ret
  exact ⟨_, rfl, Blk.new' (by simp), by omega, by (repeat first | exact Below.refl _ _ | assumption | refine Bel.alloc' ?_ _ | refine Bel.drewN ?_ _ | refine Below.drew ?_ | refine Bel.step' ?_ (by assumption))⟩

set_option maxHeartbeats 2000000 in
set_option maxRecDepth 8000 in
theorem r2path_at (a b c : Int) (g : Nat) (w : World) (hB : Blk w g #[.int .u64 a, .int .u64 b, .int .u64 c] 23) :
    Calls Tryz.prog 74 #[.slice (some ⟨g, 0, none⟩) 3 3] w fun e w' => e = .returned (.agg #[.int .u64 a, .int .u64 b, .int .u64 c]) ∧ Below w.heap.size w w' := by
  go_enter Tryz.func74, Tryz.ntmps74
  go_upto_region 1 with fail
  have hB1 := hB.alloc (.cells #[.int .u64 0, .int .u64 0, .int .u64 0] 40)
  have hr0 := Blk.new w #[.int .u64 0, .int .u64 0, .int .u64 0] 40
  have hbw : Below w.heap.size w (w.alloc (.cells #[.int .u64 0, .int .u64 0, .int .u64 0] 40)) := by (repeat first | exact Below.refl _ _ | assumption | refine Bel.alloc' ?_ _ | refine Bel.drewN ?_ _ | refine Below.drew ?_ | refine Bel.step' ?_ (by assumption))
  generalize w.alloc (.cells #[.int .u64 0, .int .u64 0, .int .u64 0] 40) = X at *
  refine wp_region_facts 10 (fun j v W => match j with
    | 0 => v = .slice (some ⟨g, 0, none⟩) 3 3
    | 1 => v = .pointer (some ⟨g, 0, none⟩)
    | 2 => v = .int .u64 a
    | 3 => v = .slice (some ⟨g, 0, none⟩) 3 3
    | 4 => v = .pointer (some ⟨g, 1, none⟩)
    | 5 => v = .int .u64 b
    | 6 => v = .slice (some ⟨g, 0, none⟩) 3 3
    | 7 => v = .pointer (some ⟨g, 2, none⟩)
    | 8 => v = .int .u64 c
    | _ => v = .agg #[.int .u64 a, .int .u64 b, .int .u64 c])
    (fun _ _ _ => False) (by kernel_rfl) (by kernel_rfl) (by intro j v W W' h hb; exact h) ?wk
  case wk =>
    simp only [List.take_succ_cons, List.take_zero, List.drop_succ_cons, List.drop_zero, Fct.walk]
    refine ⟨fun W hW hR => by (unfold Fct.opFct; go_simp; exact Below.refl _ _), fun v0 => ⟨fun W hW hR => by (unfold Fct.opFct; have hk := hR 0 (by kernel_rfl); simp at hk; subst hk; go_simp; exact Below.refl _ _), fun v1 => ⟨fun W hW hR => by (unfold Fct.opFct; have hk := hR 1 (by kernel_rfl); simp at hk; subst hk; have hcell := (Blk.later hB1 hW).cell 0 _ rfl; go_simp; exact Below.refl _ _), fun v2 => ⟨fun W hW hR => by (unfold Fct.opFct; go_simp; exact Below.refl _ _), fun v3 => ⟨fun W hW hR => by (unfold Fct.opFct; have hk := hR 3 (by kernel_rfl); simp at hk; subst hk; go_simp; exact Below.refl _ _), fun v4 => ⟨fun W hW hR => by (unfold Fct.opFct; have hk := hR 4 (by kernel_rfl); simp at hk; subst hk; have hcell := (Blk.later hB1 hW).cell 1 _ rfl; go_simp; exact Below.refl _ _), fun v5 => ⟨fun W hW hR => by (unfold Fct.opFct; go_simp; exact Below.refl _ _), fun v6 => ⟨fun W hW hR => by (unfold Fct.opFct; have hk := hR 6 (by kernel_rfl); simp at hk; subst hk; go_simp; exact Below.refl _ _), fun v7 => ⟨fun W hW hR => by (unfold Fct.opFct; have hk := hR 7 (by kernel_rfl); simp at hk; subst hk; have hcell := (Blk.later hB1 hW).cell 2 _ rfl; go_simp; exact Below.refl _ _), fun v8 => ⟨fun W hW hR => ?b, fun v9 W hW hR hO => ?t⟩⟩⟩⟩⟩⟩⟩⟩⟩⟩
    case b =>
      unfold Fct.opFct
      have h2 := hR 2 (by kernel_rfl)
      have h5 := hR 5 (by kernel_rfl)
      have h8 := hR 8 (by kernel_rfl)
      simp at h2 h5 h8
      subst h2; subst h5; subst h8
      go_simp
      exact Below.refl _ _
    case t =>
      have k9 := hR 9 (by omega)
      simp at k9
      subst k9
      clear hR hO
      simp only [Act.put, List.setIfInBounds_toArray, List.set_cons_zero, List.set_cons_succ]
      have hrW := hr0.later hW
      have p0 := hrW.cell 0 _ rfl
      have p1 := hrW.cell 1 _ rfl
      have p2 := hrW.cell 2 _ rfl
      have pf := hrW.frozen
      go_wp2
      obtain ⟨HR, hbZ⟩ := res_row (x := .int .u64 a) (y := .int .u64 b) (z := .int .u64 c) hr0 hW hbw (Nat.le_refl _)
      clear p0 p1 p2 pf hrW
      generalize (((W.setCell ⟨w.heap.size, 0, none⟩ (.int .u64 a)).setCell ⟨w.heap.size, 1, none⟩ (.int .u64 b)).setCell ⟨w.heap.size, 2, none⟩ (.int .u64 c)) = Z at HR hbZ ⊢
      have z0 := HR.cell 0 _ rfl
      have z1 := HR.cell 1 _ rfl
      have z2 := HR.cell 2 _ rfl
      refine bodyPost_ret (v := .agg #[.int .u64 a, .int .u64 b, .int .u64 c]) (by simp [results, Tryz.results74, go_sem, z0, z1, z2]) rfl ⟨rfl, hbZ⟩

set_option maxHeartbeats 8000000 in
set_option maxRecDepth 8000 in
theorem r2compare_at (x y : Tm) (w : World) :
    Calls Tryz.prog 38 #[tmV x, tmV y] w fun e w' => e = .returned (.int .i64 (cmpV x y)) ∧ Below w.heap.size w w' := by
  obtain ⟨x0, x1, x2⟩ := x
  obtain ⟨y0, y1, y2⟩ := y
  have CX := Lib.hid (fun W => r2num_at x0 x1 x2 W)
  have CY := Lib.hid (fun W => r2num_at y0 y1 y2 W)
  have hv : Hid (cmpV ⟨x0, x1, x2⟩ ⟨y0, y1, y2⟩ = if cmp1 x0 y0 ≠ 0 then cmp1 x0 y0 else if cmp1 x1 y1 ≠ 0 then cmp1 x1 y1 else cmp1 x2 y2) := Lib.hid rfl
  generalize cmpV ⟨x0, x1, x2⟩ ⟨y0, y1, y2⟩ = v at hv ⊢
  simp only [tmV]
  go_enter Tryz.func38, Tryz.ntmps38
  go_upto_region 3 with (go_at_call 73; first | (with_reducible refine Calls.mono (CX.out _) ?_; rintro e w1 ⟨g1, rfl, hB1, hg1, hb1⟩; obtain ⟨hc1, hf1⟩ := Bel.cells hb1; have hz1 : w.heap.size < w1.heap.size := (by have := hb1.size; simp at this; omega); have hz1' : w.heap.size + 1 < w1.heap.size := (by have := hb1.size; simp at this; omega)) | (with_reducible refine Calls.mono (CY.out _) ?_; rintro e w2 ⟨g2, rfl, hB2, hg2, hb2⟩))
  have hB1' := hB1.later hb2
  have hbw : Below w.heap.size w w2 := Bel.step' (Bel.step' (by (repeat first | exact Below.refl _ _ | assumption | refine Bel.alloc' ?_ _ | refine Bel.drewN ?_ _ | refine Below.drew ?_ | refine Bel.step' ?_ (by assumption))) hb1) hb2
  clear hc1 hf1 hB1 hb1 hb2
  go_wp2
  go_loopw [7] (fun v7 wr => ∃ k : Nat, k ≤ 3 ∧ v7 = .int .i64 k ∧ Hid ((1 ≤ k → x0 = y0) ∧ (2 ≤ k → x1 = y1) ∧ (3 ≤ k → x2 = y2)) ∧ Hid (Blk wr g1 #[.int .u64 x0, .int .u64 x1, .int .u64 x2] 23) ∧ Hid (Blk wr g2 #[.int .u64 y0, .int .u64 y1, .int .u64 y2] 23) ∧ Below w.heap.size w wr) (fun v7 _ => 3 - (intOf v7).toNat)
  case atStart => exact ⟨0, by omega, rfl, Lib.hid ⟨fun h => by omega, fun h => by omega, fun h => by omega⟩, Lib.hid hB1', Lib.hid hB2, hbw⟩
  case round =>
    obtain ⟨k, hk3, rfl, HZ, HX, HY, hbr⟩ := hrel
    clear hB1' hB2 hbw
    rcases (show k = 0 ∨ k = 1 ∨ k = 2 ∨ k = 3 by omega) with rfl | rfl | rfl | rfl
    · have c0 := HX.out.cell 0 _ rfl
      have d0 := HY.out.cell 0 _ rfl
      by_cases hz : x0 < y0
      · have tz : decide (x0 < y0) = true := decide_eq_true hz
        have HQ := Lib.hid hz
        clear hz
        go_wp2
        go_quiet (fail)
        go_wp2
        go_ret
        exact ⟨ret_int (by rw [hv.out, cmp1_lt HQ.out]; simp), Bel.drewN hbr _⟩
      · have tz : decide (x0 < y0) = false := decide_eq_false hz
        have HQ := Lib.hid hz
        clear hz
        by_cases hz2 : y0 < x0
        · have tz2 : decide (y0 < x0) = true := decide_eq_true hz2
          have HQ2 := Lib.hid hz2
          clear hz2
          go_wp2
          go_quiet (fail)
          go_wp2
          go_quiet (fail)
          go_wp2
          go_ret
          exact ⟨ret_int (by rw [hv.out, cmp1_gt HQ2.out]; simp), Bel.drewN (Bel.drewN hbr _) _⟩
        · have tz2 : decide (y0 < x0) = false := decide_eq_false hz2
          have HQ2 := Lib.hid hz2
          clear hz2
          go_wp2
          go_quiet (fail)
          go_wp2
          go_quiet (fail)
          go_wp2
          exact ⟨⟨1, by omega, rfl, Lib.hid ⟨fun _ => (by have := HQ.out; have := HQ2.out; omega), fun h => by omega, fun h => by omega⟩, Lib.hid (HX.out.drewN _), Lib.hid (HY.out.drewN _), Bel.drewN hbr _⟩, by simp [intOf]⟩
    · have c0 := HX.out.cell 1 _ rfl
      have d0 := HY.out.cell 1 _ rfl
      by_cases hz : x1 < y1
      · have tz : decide (x1 < y1) = true := decide_eq_true hz
        have HQ := Lib.hid hz
        clear hz
        go_wp2
        go_quiet (fail)
        go_wp2
        go_ret
        exact ⟨ret_int (by rw [hv.out, cmp1_eq (HZ.out.1 (by omega)), cmp1_lt HQ.out]; simp), Bel.drewN hbr _⟩
      · have tz : decide (x1 < y1) = false := decide_eq_false hz
        have HQ := Lib.hid hz
        clear hz
        by_cases hz2 : y1 < x1
        · have tz2 : decide (y1 < x1) = true := decide_eq_true hz2
          have HQ2 := Lib.hid hz2
          clear hz2
          go_wp2
          go_quiet (fail)
          go_wp2
          go_quiet (fail)
          go_wp2
          go_ret
          exact ⟨ret_int (by rw [hv.out, cmp1_eq (HZ.out.1 (by omega)), cmp1_gt HQ2.out]; simp), Bel.drewN (Bel.drewN hbr _) _⟩
        · have tz2 : decide (y1 < x1) = false := decide_eq_false hz2
          have HQ2 := Lib.hid hz2
          clear hz2
          go_wp2
          go_quiet (fail)
          go_wp2
          go_quiet (fail)
          go_wp2
          exact ⟨⟨2, by omega, rfl, Lib.hid ⟨fun _ => HZ.out.1 (by omega), fun _ => (by have := HQ.out; have := HQ2.out; omega), fun h => by omega⟩, Lib.hid (HX.out.drewN _), Lib.hid (HY.out.drewN _), Bel.drewN hbr _⟩, by simp [intOf]⟩
    · have c0 := HX.out.cell 2 _ rfl
      have d0 := HY.out.cell 2 _ rfl
      by_cases hz : x2 < y2
      · have tz : decide (x2 < y2) = true := decide_eq_true hz
        have HQ := Lib.hid hz
        clear hz
        go_wp2
        go_quiet (fail)
        go_wp2
        go_ret
        exact ⟨ret_int (by rw [hv.out, cmp1_eq (HZ.out.1 (by omega)), cmp1_eq (HZ.out.2.1 (by omega)), cmp1_lt HQ.out]; simp), Bel.drewN hbr _⟩
      · have tz : decide (x2 < y2) = false := decide_eq_false hz
        have HQ := Lib.hid hz
        clear hz
        by_cases hz2 : y2 < x2
        · have tz2 : decide (y2 < x2) = true := decide_eq_true hz2
          have HQ2 := Lib.hid hz2
          clear hz2
          go_wp2
          go_quiet (fail)
          go_wp2
          go_quiet (fail)
          go_wp2
          go_ret
          exact ⟨ret_int (by rw [hv.out, cmp1_eq (HZ.out.1 (by omega)), cmp1_eq (HZ.out.2.1 (by omega)), cmp1_gt HQ2.out]; simp), Bel.drewN (Bel.drewN hbr _) _⟩
        · have tz2 : decide (y2 < x2) = false := decide_eq_false hz2
          have HQ2 := Lib.hid hz2
          clear hz2
          go_wp2
          go_quiet (fail)
          go_wp2
          go_quiet (fail)
          go_wp2
          exact ⟨⟨3, by omega, rfl, Lib.hid ⟨fun _ => HZ.out.1 (by omega), fun _ => HZ.out.2.1 (by omega), fun _ => (by have := HQ.out; have := HQ2.out; omega)⟩, Lib.hid (HX.out.drewN _), Lib.hid (HY.out.drewN _), Bel.drewN hbr _⟩, by simp [intOf]⟩
    · go_wp2
      go_ret
      exact ⟨ret_int (by rw [hv.out, cmp1_eq (HZ.out.1 (by omega)), cmp1_eq (HZ.out.2.1 (by omega)), cmp1_eq (HZ.out.2.2 (by omega))]; simp), hbr⟩


set_option maxHeartbeats 4000000 in
set_option maxRecDepth 8000 in
theorem r2ahead_at (x y : Tm) (w : World) :
    Calls Tryz.prog 36 #[tmV x, tmV y] w fun e w' => e = .returned (.bool (aheadB x y)) ∧ Below w.heap.size w w' := by
  obtain ⟨x0, x1, x2⟩ := x
  obtain ⟨y0, y1, y2⟩ := y
  have CX := Lib.hid (fun W => r2num_at x0 x1 x2 W)
  have CY := Lib.hid (fun W => r2num_at y0 y1 y2 W)
  by_cases h1 : x0 ≤ y0
  · have t1 : decide (x0 ≤ y0) = true := decide_eq_true h1
    by_cases h2 : x1 ≤ y1
    · have t2 : decide (x1 ≤ y1) = true := decide_eq_true h2
      by_cases h3 : x2 ≤ y2
      · have t3 : decide (x2 ≤ y2) = true := decide_eq_true h3
        have e : aheadB ⟨x0, x1, x2⟩ ⟨y0, y1, y2⟩ = true := by simp [aheadB, h1, h2, h3]
        rw [e]; clear e h1 h2 h3
        simp only [tmV]
        (go_enter Tryz.func36, Tryz.ntmps36; go_upto_region 3 with (go_at_call 73; first | (with_reducible refine Calls.mono (CX.out _) ?_; rintro e w1 ⟨g1, rfl, hB1, hg1, hb1⟩; obtain ⟨hc1, hf1⟩ := Bel.cells hb1; have hz1 : w.heap.size < w1.heap.size := (by have := hb1.size; simp at this; omega); have hz1' : w.heap.size + 1 < w1.heap.size := (by have := hb1.size; simp at this; omega)) | (with_reducible refine Calls.mono (CY.out _) ?_; rintro e w2 ⟨g2, rfl, hB2, hg2, hb2⟩)); have hB1' := hB1.later hb2; have hbw : Below w.heap.size w w2 := Bel.step' (Bel.step' (by (repeat first | exact Below.refl _ _ | assumption | refine Bel.alloc' ?_ _ | refine Bel.drewN ?_ _ | refine Below.drew ?_ | refine Bel.step' ?_ (by assumption))) hb1) hb2; clear hc1 hf1 hB1 hb1 hb2; have c0 := hB1'.cell 0 _ rfl; have c1 := hB1'.cell 1 _ rfl; have c2 := hB1'.cell 2 _ rfl; have d0 := hB2.cell 0 _ rfl; have d1 := hB2.cell 1 _ rfl; have d2 := hB2.cell 2 _ rfl; go_wp2; go_quiet (fail); go_wp2; go_ret; exact ⟨rfl, Bel.drewN hbw _⟩)
      · have t3 : decide (x2 ≤ y2) = false := decide_eq_false h3
        have e : aheadB ⟨x0, x1, x2⟩ ⟨y0, y1, y2⟩ = false := by simp [aheadB, h1, h2, h3]
        rw [e]; clear e h1 h2 h3
        simp only [tmV]
        (go_enter Tryz.func36, Tryz.ntmps36; go_upto_region 3 with (go_at_call 73; first | (with_reducible refine Calls.mono (CX.out _) ?_; rintro e w1 ⟨g1, rfl, hB1, hg1, hb1⟩; obtain ⟨hc1, hf1⟩ := Bel.cells hb1; have hz1 : w.heap.size < w1.heap.size := (by have := hb1.size; simp at this; omega); have hz1' : w.heap.size + 1 < w1.heap.size := (by have := hb1.size; simp at this; omega)) | (with_reducible refine Calls.mono (CY.out _) ?_; rintro e w2 ⟨g2, rfl, hB2, hg2, hb2⟩)); have hB1' := hB1.later hb2; have hbw : Below w.heap.size w w2 := Bel.step' (Bel.step' (by (repeat first | exact Below.refl _ _ | assumption | refine Bel.alloc' ?_ _ | refine Bel.drewN ?_ _ | refine Below.drew ?_ | refine Bel.step' ?_ (by assumption))) hb1) hb2; clear hc1 hf1 hB1 hb1 hb2; have c0 := hB1'.cell 0 _ rfl; have c1 := hB1'.cell 1 _ rfl; have c2 := hB1'.cell 2 _ rfl; have d0 := hB2.cell 0 _ rfl; have d1 := hB2.cell 1 _ rfl; have d2 := hB2.cell 2 _ rfl; go_wp2; go_quiet (fail); go_wp2; go_ret; exact ⟨rfl, Bel.drewN hbw _⟩)
    · have t2 : decide (x1 ≤ y1) = false := decide_eq_false h2
      have e : aheadB ⟨x0, x1, x2⟩ ⟨y0, y1, y2⟩ = false := by simp [aheadB, h1, h2]
      rw [e]; clear e h1 h2
      simp only [tmV]
      (go_enter Tryz.func36, Tryz.ntmps36; go_upto_region 3 with (go_at_call 73; first | (with_reducible refine Calls.mono (CX.out _) ?_; rintro e w1 ⟨g1, rfl, hB1, hg1, hb1⟩; obtain ⟨hc1, hf1⟩ := Bel.cells hb1; have hz1 : w.heap.size < w1.heap.size := (by have := hb1.size; simp at this; omega); have hz1' : w.heap.size + 1 < w1.heap.size := (by have := hb1.size; simp at this; omega)) | (with_reducible refine Calls.mono (CY.out _) ?_; rintro e w2 ⟨g2, rfl, hB2, hg2, hb2⟩)); have hB1' := hB1.later hb2; have hbw : Below w.heap.size w w2 := Bel.step' (Bel.step' (by (repeat first | exact Below.refl _ _ | assumption | refine Bel.alloc' ?_ _ | refine Bel.drewN ?_ _ | refine Below.drew ?_ | refine Bel.step' ?_ (by assumption))) hb1) hb2; clear hc1 hf1 hB1 hb1 hb2; have c0 := hB1'.cell 0 _ rfl; have c1 := hB1'.cell 1 _ rfl; have c2 := hB1'.cell 2 _ rfl; have d0 := hB2.cell 0 _ rfl; have d1 := hB2.cell 1 _ rfl; have d2 := hB2.cell 2 _ rfl; go_wp2; go_quiet (fail); go_wp2; go_ret; exact ⟨rfl, Bel.drewN hbw _⟩)
  · have t1 : decide (x0 ≤ y0) = false := decide_eq_false h1
    have e : aheadB ⟨x0, x1, x2⟩ ⟨y0, y1, y2⟩ = false := by simp [aheadB, h1]
    rw [e]; clear e h1
    simp only [tmV]
    (go_enter Tryz.func36, Tryz.ntmps36; go_upto_region 3 with (go_at_call 73; first | (with_reducible refine Calls.mono (CX.out _) ?_; rintro e w1 ⟨g1, rfl, hB1, hg1, hb1⟩; obtain ⟨hc1, hf1⟩ := Bel.cells hb1; have hz1 : w.heap.size < w1.heap.size := (by have := hb1.size; simp at this; omega); have hz1' : w.heap.size + 1 < w1.heap.size := (by have := hb1.size; simp at this; omega)) | (with_reducible refine Calls.mono (CY.out _) ?_; rintro e w2 ⟨g2, rfl, hB2, hg2, hb2⟩)); have hB1' := hB1.later hb2; have hbw : Below w.heap.size w w2 := Bel.step' (Bel.step' (by (repeat first | exact Below.refl _ _ | assumption | refine Bel.alloc' ?_ _ | refine Bel.drewN ?_ _ | refine Below.drew ?_ | refine Bel.step' ?_ (by assumption))) hb1) hb2; clear hc1 hf1 hB1 hb1 hb2; have c0 := hB1'.cell 0 _ rfl; have c1 := hB1'.cell 1 _ rfl; have c2 := hB1'.cell 2 _ rfl; have d0 := hB2.cell 0 _ rfl; have d1 := hB2.cell 1 _ rfl; have d2 := hB2.cell 2 _ rfl; go_wp2; go_quiet (fail); go_wp2; go_ret; exact ⟨rfl, Bel.drewN hbw _⟩)

set_option maxHeartbeats 4000000 in
set_option maxRecDepth 8000 in
theorem r2fits_at (a b c n : Int) (w : World) :
    Calls Tryz.prog 42 #[.agg #[.int .u64 a, .int .u64 b, .int .u64 c], .int .i64 n] w fun e w' => e = .returned (.int .i64 (fitsV a b c n)) ∧ Below w.heap.size w w' := by
  have CN := Lib.hid (fun W => r2num_at a b c W)
  by_cases h : n < 1 ∨ n > 3
  · have e : fitsV a b c n = 10 := by unfold fitsV; rw [if_pos h]
    rw [e]
    clear e
    by_cases h1 : n < 1
    · have t1 : decide (n < 1) = true := decide_eq_true h1
      clear h h1
      go_enter Tryz.func42, Tryz.ntmps42
      go_wp2
      go_ret
      exact ⟨rfl, by (repeat first | exact Below.refl _ _ | assumption | refine Bel.alloc' ?_ _ | refine Bel.drewN ?_ _ | refine Below.drew ?_ | refine Bel.step' ?_ (by assumption))⟩
    · have t1 : decide (n < 1) = false := decide_eq_false h1
      have t2 : decide (3 < n) = true := decide_eq_true (by omega)
      clear h h1
      go_enter Tryz.func42, Tryz.ntmps42
      go_wp2
      go_ret
      exact ⟨rfl, by (repeat first | exact Below.refl _ _ | assumption | refine Bel.alloc' ?_ _ | refine Bel.drewN ?_ _ | refine Below.drew ?_ | refine Bel.step' ?_ (by assumption))⟩
  · obtain h | h | h : n = 1 ∨ n = 2 ∨ n = 3 := by omega
    · subst h
      by_cases hb : b = 0
      · subst hb
        by_cases hc : c = 0
        · subst hc
          have e : fitsV a 0 0 1 = 0 := by simp [fitsV]
          rw [e]; clear e h
          (go_enter Tryz.func42, Tryz.ntmps42; go_wp2_with (go_at_call 73; refine (CN.out _).mono ?_; rintro e w1 ⟨g, rfl, hB1, hg1, hb1⟩; have c0 := hB1.cell 0 _ rfl; have c1 := hB1.cell 1 _ rfl; have c2 := hB1.cell 2 _ rfl); have hbw : Below w.heap.size w w1 := Bel.step' (by (repeat first | exact Below.refl _ _ | assumption | refine Bel.alloc' ?_ _ | refine Bel.drewN ?_ _ | refine Below.drew ?_ | refine Bel.step' ?_ (by assumption))) hb1; clear hB1 hb1; refine wp_loop_rounds 4 ?_)
          iterate 4 (rw [rounds_succ]; go_wp2)
          go_ret
          exact ⟨rfl, hbw⟩
        · have tc : (c != 0) = true := by simpa using hc
          have e : fitsV a 0 c 1 = 10 := by simp [fitsV, hc]
          rw [e]; clear e h hc
          (go_enter Tryz.func42, Tryz.ntmps42; go_wp2_with (go_at_call 73; refine (CN.out _).mono ?_; rintro e w1 ⟨g, rfl, hB1, hg1, hb1⟩; have c0 := hB1.cell 0 _ rfl; have c1 := hB1.cell 1 _ rfl; have c2 := hB1.cell 2 _ rfl); have hbw : Below w.heap.size w w1 := Bel.step' (by (repeat first | exact Below.refl _ _ | assumption | refine Bel.alloc' ?_ _ | refine Bel.drewN ?_ _ | refine Below.drew ?_ | refine Bel.step' ?_ (by assumption))) hb1; clear hB1 hb1; refine wp_loop_rounds 4 ?_)
          iterate 3 (rw [rounds_succ]; go_wp2)
          go_ret
          exact ⟨rfl, hbw⟩
      · have tb : (b != 0) = true := by simpa using hb
        have e : fitsV a b c 1 = 10 := by simp [fitsV, hb]
        rw [e]; clear e h hb
        (go_enter Tryz.func42, Tryz.ntmps42; go_wp2_with (go_at_call 73; refine (CN.out _).mono ?_; rintro e w1 ⟨g, rfl, hB1, hg1, hb1⟩; have c0 := hB1.cell 0 _ rfl; have c1 := hB1.cell 1 _ rfl; have c2 := hB1.cell 2 _ rfl); have hbw : Below w.heap.size w w1 := Bel.step' (by (repeat first | exact Below.refl _ _ | assumption | refine Bel.alloc' ?_ _ | refine Bel.drewN ?_ _ | refine Below.drew ?_ | refine Bel.step' ?_ (by assumption))) hb1; clear hB1 hb1; refine wp_loop_rounds 4 ?_)
        iterate 2 (rw [rounds_succ]; go_wp2)
        go_ret
        exact ⟨rfl, hbw⟩
    · subst h
      by_cases hc : c = 0
      · subst hc
        have e : fitsV a b 0 2 = 0 := by simp [fitsV]
        rw [e]; clear e h
        (go_enter Tryz.func42, Tryz.ntmps42; go_wp2_with (go_at_call 73; refine (CN.out _).mono ?_; rintro e w1 ⟨g, rfl, hB1, hg1, hb1⟩; have c0 := hB1.cell 0 _ rfl; have c1 := hB1.cell 1 _ rfl; have c2 := hB1.cell 2 _ rfl); have hbw : Below w.heap.size w w1 := Bel.step' (by (repeat first | exact Below.refl _ _ | assumption | refine Bel.alloc' ?_ _ | refine Bel.drewN ?_ _ | refine Below.drew ?_ | refine Bel.step' ?_ (by assumption))) hb1; clear hB1 hb1; refine wp_loop_rounds 4 ?_)
        iterate 4 (rw [rounds_succ]; go_wp2)
        go_ret
        exact ⟨rfl, hbw⟩
      · have tc : (c != 0) = true := by simpa using hc
        have e : fitsV a b c 2 = 10 := by simp [fitsV, hc]
        rw [e]; clear e h hc
        (go_enter Tryz.func42, Tryz.ntmps42; go_wp2_with (go_at_call 73; refine (CN.out _).mono ?_; rintro e w1 ⟨g, rfl, hB1, hg1, hb1⟩; have c0 := hB1.cell 0 _ rfl; have c1 := hB1.cell 1 _ rfl; have c2 := hB1.cell 2 _ rfl); have hbw : Below w.heap.size w w1 := Bel.step' (by (repeat first | exact Below.refl _ _ | assumption | refine Bel.alloc' ?_ _ | refine Bel.drewN ?_ _ | refine Below.drew ?_ | refine Bel.step' ?_ (by assumption))) hb1; clear hB1 hb1; refine wp_loop_rounds 4 ?_)
        iterate 3 (rw [rounds_succ]; go_wp2)
        go_ret
        exact ⟨rfl, hbw⟩
    · subst h
      have e : fitsV a b c 3 = 0 := by simp [fitsV]
      rw [e]; clear e h
      (go_enter Tryz.func42, Tryz.ntmps42; go_wp2_with (go_at_call 73; refine (CN.out _).mono ?_; rintro e w1 ⟨g, rfl, hB1, hg1, hb1⟩; have c0 := hB1.cell 0 _ rfl; have c1 := hB1.cell 1 _ rfl; have c2 := hB1.cell 2 _ rfl); have hbw : Below w.heap.size w w1 := Bel.step' (by (repeat first | exact Below.refl _ _ | assumption | refine Bel.alloc' ?_ _ | refine Bel.drewN ?_ _ | refine Below.drew ?_ | refine Bel.step' ?_ (by assumption))) hb1; clear hB1 hb1; refine wp_loop_rounds 4 ?_)
      iterate 4 (rw [rounds_succ]; go_wp2)
      go_ret
      exact ⟨rfl, hbw⟩
end Go.Proofs.YtiiegpklpmogmaaGreatDoor
