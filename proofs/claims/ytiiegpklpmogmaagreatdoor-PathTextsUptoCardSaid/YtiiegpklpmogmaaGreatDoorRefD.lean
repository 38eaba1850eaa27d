/- The document's own answer for chapter 1: both orders. -/
import Derived.Test.YtiiegpklpmogmaaGreatDoorRefA
set_option linter.unusedVariables false
set_option linter.unusedSimpArgs false
namespace Go.Proofs.YtiiegpklpmogmaaGreatDoor
open Go.RowKit


set_option maxHeartbeats 4000000 in
set_option maxRecDepth 8000 in
theorem refahead_at (x y : Tm) (w : World) :
    Calls Tryz.prog 22 #[tmV x, tmV y] w fun e w' => e = .returned (.bool (aheadB x y)) ∧ Below w.heap.size w w' := by
  obtain ⟨x0, x1, x2⟩ := x
  obtain ⟨y0, y1, y2⟩ := y
  have CX := Lib.hid (fun W => refnum_at x0 x1 x2 W)
  have CY := Lib.hid (fun W => refnum_at y0 y1 y2 W)
  have hv : Hid (aheadB ⟨x0, x1, x2⟩ ⟨y0, y1, y2⟩ = (decide (x0 ≤ y0) && decide (x1 ≤ y1) && decide (x2 ≤ y2))) := Lib.hid rfl
  generalize aheadB ⟨x0, x1, x2⟩ ⟨y0, y1, y2⟩ = v at hv ⊢
  simp only [tmV]
  go_enter Tryz.func22, Tryz.ntmps22
  go_upto_region 3 with (go_at_call 64; first | (with_reducible refine Calls.mono (CX.out _) ?_; rintro e w1 ⟨g1, rfl, hB1, hg1, hb1⟩; obtain ⟨hc1, hf1⟩ := Bel.cells hb1; have hz1 : w.heap.size < w1.heap.size := (by have := hb1.size; simp at this; omega); have hz1' : w.heap.size + 1 < w1.heap.size := (by have := hb1.size; simp at this; omega)) | (with_reducible refine Calls.mono (CY.out _) ?_; rintro e w2 ⟨g2, rfl, hB2, hg2, hb2⟩))
  have hB1' := hB1.later hb2
  have hbw : Below w.heap.size w w2 := Bel.step' (Bel.step' (by (repeat first | exact Below.refl _ _ | assumption | refine Bel.alloc' ?_ _ | refine Bel.drewN ?_ _ | refine Below.drew ?_ | refine Bel.step' ?_ (by assumption))) hb1) hb2
  clear hc1 hf1 hB1 hb1 hb2
  go_wp2
  go_loopw [7] (fun v7 wr => ∃ k : Nat, k ≤ 3 ∧ v7 = .int .i64 k ∧ Hid ((1 ≤ k → x0 ≤ y0) ∧ (2 ≤ k → x1 ≤ y1) ∧ (3 ≤ k → x2 ≤ y2)) ∧ Hid (Blk wr g1 #[.int .u64 x0, .int .u64 x1, .int .u64 x2] 23) ∧ Hid (Blk wr g2 #[.int .u64 y0, .int .u64 y1, .int .u64 y2] 23) ∧ Below w.heap.size w wr) (fun v7 _ => 3 - (intOf v7).toNat)
  case atStart => exact ⟨0, by omega, rfl, Lib.hid ⟨fun h => by omega, fun h => by omega, fun h => by omega⟩, Lib.hid hB1', Lib.hid hB2, hbw⟩
  case round =>
    obtain ⟨k, hk3, rfl, HZ, HX, HY, hbr⟩ := hrel
    clear hB1' hB2 hbw
    rcases (show k = 0 ∨ k = 1 ∨ k = 2 ∨ k = 3 by omega) with rfl | rfl | rfl | rfl
    · have c0 := HX.out.cell 0 _ rfl
      have d0 := HY.out.cell 0 _ rfl
      by_cases hz : x0 ≤ y0
      · have tz : decide (y0 < x0) = false := decide_eq_false (by omega)
        have HQ := Lib.hid hz
        clear hz
        go_wp2
        go_quiet (fail)
        go_wp2
        exact ⟨⟨1, by omega, rfl, Lib.hid ⟨fun _ => HQ.out, fun h => by omega, fun h => by omega⟩, Lib.hid (HX.out.drewN _), Lib.hid (HY.out.drewN _), Bel.drewN hbr _⟩, by simp [intOf]⟩
      · have tz : decide (y0 < x0) = true := decide_eq_true (by omega)
        have HQ := Lib.hid hz
        clear hz
        go_wp2
        go_quiet (fail)
        go_wp2
        go_ret
        exact ⟨ret_bool (by rw [hv.out, decide_eq_false (show ¬ x0 ≤ y0 from by have := HQ.out; omega)]; rfl), Bel.drewN hbr _⟩
    · have c0 := HX.out.cell 1 _ rfl
      have d0 := HY.out.cell 1 _ rfl
      by_cases hz : x1 ≤ y1
      · have tz : decide (y1 < x1) = false := decide_eq_false (by omega)
        have HQ := Lib.hid hz
        clear hz
        go_wp2
        go_quiet (fail)
        go_wp2
        exact ⟨⟨2, by omega, rfl, Lib.hid ⟨fun _ => HZ.out.1 (by omega), fun _ => HQ.out, fun h => by omega⟩, Lib.hid (HX.out.drewN _), Lib.hid (HY.out.drewN _), Bel.drewN hbr _⟩, by simp [intOf]⟩
      · have tz : decide (y1 < x1) = true := decide_eq_true (by omega)
        have HQ := Lib.hid hz
        clear hz
        go_wp2
        go_quiet (fail)
        go_wp2
        go_ret
        exact ⟨ret_bool (by rw [hv.out, decide_eq_false (show ¬ x1 ≤ y1 from by have := HQ.out; omega), Bool.and_false]; rfl), Bel.drewN hbr _⟩
    · have c0 := HX.out.cell 2 _ rfl
      have d0 := HY.out.cell 2 _ rfl
      by_cases hz : x2 ≤ y2
      · have tz : decide (y2 < x2) = false := decide_eq_false (by omega)
        have HQ := Lib.hid hz
        clear hz
        go_wp2
        go_quiet (fail)
        go_wp2
        exact ⟨⟨3, by omega, rfl, Lib.hid ⟨fun _ => HZ.out.1 (by omega), fun _ => HZ.out.2.1 (by omega), fun _ => HQ.out⟩, Lib.hid (HX.out.drewN _), Lib.hid (HY.out.drewN _), Bel.drewN hbr _⟩, by simp [intOf]⟩
      · have tz : decide (y2 < x2) = true := decide_eq_true (by omega)
        have HQ := Lib.hid hz
        clear hz
        go_wp2
        go_quiet (fail)
        go_wp2
        go_ret
        exact ⟨ret_bool (by rw [hv.out, decide_eq_false (show ¬ x2 ≤ y2 from by have := HQ.out; omega), Bool.and_false]), Bel.drewN hbr _⟩
    · go_wp2
      go_ret
      exact ⟨ret_bool (by rw [hv.out, decide_eq_true (HZ.out.1 (by omega)), decide_eq_true (HZ.out.2.1 (by omega)), decide_eq_true (HZ.out.2.2 (by omega))]; rfl), hbr⟩

theorem cmp1_lt {x y : Int} (h : x < y) : cmp1 x y = -1 := by unfold cmp1; rw [if_pos h]
theorem cmp1_gt {x y : Int} (h : y < x) : cmp1 x y = 1 := by unfold cmp1; rw [if_neg (by omega), if_pos h]
theorem cmp1_eq {x y : Int} (h : x = y) : cmp1 x y = 0 := by unfold cmp1; rw [if_neg (by omega), if_neg (by omega)]

set_option maxHeartbeats 8000000 in
set_option maxRecDepth 8000 in
theorem refcompare_at (x y : Tm) (w : World) :
    Calls Tryz.prog 24 #[tmV x, tmV y] w fun e w' => e = .returned (.int .i64 (cmpV x y)) ∧ Below w.heap.size w w' := by
  obtain ⟨x0, x1, x2⟩ := x
  obtain ⟨y0, y1, y2⟩ := y
  have CX := Lib.hid (fun W => refnum_at x0 x1 x2 W)
  have CY := Lib.hid (fun W => refnum_at y0 y1 y2 W)
  have hv : Hid (cmpV ⟨x0, x1, x2⟩ ⟨y0, y1, y2⟩ = if cmp1 x0 y0 ≠ 0 then cmp1 x0 y0 else if cmp1 x1 y1 ≠ 0 then cmp1 x1 y1 else cmp1 x2 y2) := Lib.hid rfl
  generalize cmpV ⟨x0, x1, x2⟩ ⟨y0, y1, y2⟩ = v at hv ⊢
  simp only [tmV]
  go_enter Tryz.func24, Tryz.ntmps24
  go_upto_region 3 with (go_at_call 64; first | (with_reducible refine Calls.mono (CX.out _) ?_; rintro e w1 ⟨g1, rfl, hB1, hg1, hb1⟩; obtain ⟨hc1, hf1⟩ := Bel.cells hb1; have hz1 : w.heap.size < w1.heap.size := (by have := hb1.size; simp at this; omega); have hz1' : w.heap.size + 1 < w1.heap.size := (by have := hb1.size; simp at this; omega)) | (with_reducible refine Calls.mono (CY.out _) ?_; rintro e w2 ⟨g2, rfl, hB2, hg2, hb2⟩))
  have hB1' := hB1.later hb2
  have hbw : Below w.heap.size w w2 := Bel.step' (Bel.step' (by (repeat first | exact Below.refl _ _ | assumption | refine Bel.alloc' ?_ _ | refine Bel.drewN ?_ _ | refine Below.drew ?_ | refine Bel.step' ?_ (by assumption))) hb1) hb2
  clear hc1 hf1 hB1 hb1 hb2
  go_wp2
  go_loopw [7] (fun v7 wr => ∃ k : Nat, k ≤ 3 ∧ v7 = .int .i64 k ∧ Hid ((1 ≤ k → x0 = y0) ∧ (2 ≤ k → x1 = y1) ∧ (3 ≤ k → x2 = y2)) ∧ Hid (Blk wr g1 #[.int .u64 x0, .int .u64 x1, .int .u64 x2] 23) ∧ Hid (Blk wr g2 #[.int .u64 y0, .int .u64 y1, .int .u64 y2] 23) ∧ Below w.heap.size w wr) (fun v7 _ => 3 - (intOf v7).toNat)
  case atStart => exact ⟨0, by omega, rfl, Lib.hid ⟨fun h => by omega, fun h => by omega, fun h => by omega⟩, Lib.hid hB1', Lib.hid hB2, hbw⟩
  case round =>
    obtain ⟨k, hk3, rfl, HZ, HX, HY, hbr⟩ := hrel
    clear hB1' hB2 hbw
    rcases (show k = 0 ∨ k = 1 ∨ k = 2 ∨ k = 3 by omega) with rfl | rfl | rfl | rfl
    · have c0 := HX.out.cell 0 _ rfl
      have d0 := HY.out.cell 0 _ rfl
      by_cases hz : x0 < y0
      · have tz : decide (x0 < y0) = true := decide_eq_true hz
        have HQ := Lib.hid hz
        clear hz
        go_wp2
        go_quiet (fail)
        go_wp2
        go_ret
        exact ⟨ret_int (by rw [hv.out, cmp1_lt HQ.out]; simp), Bel.drewN hbr _⟩
      · have tz : decide (x0 < y0) = false := decide_eq_false hz
        have HQ := Lib.hid hz
        clear hz
        by_cases hz2 : y0 < x0
        · have tz2 : decide (y0 < x0) = true := decide_eq_true hz2
          have HQ2 := Lib.hid hz2
          clear hz2
          go_wp2
          go_quiet (fail)
          go_wp2
          go_quiet (fail)
          go_wp2
          go_ret
          exact ⟨ret_int (by rw [hv.out, cmp1_gt HQ2.out]; simp), Bel.drewN (Bel.drewN hbr _) _⟩
        · have tz2 : decide (y0 < x0) = false := decide_eq_false hz2
          have HQ2 := Lib.hid hz2
          clear hz2
          go_wp2
          go_quiet (fail)
          go_wp2
          go_quiet (fail)
          go_wp2
          exact ⟨⟨1, by omega, rfl, Lib.hid ⟨fun _ => (by have := HQ.out; have := HQ2.out; omega), fun h => by omega, fun h => by omega⟩, Lib.hid (HX.out.drewN _), Lib.hid (HY.out.drewN _), Bel.drewN hbr _⟩, by simp [intOf]⟩
    · have c0 := HX.out.cell 1 _ rfl
      have d0 := HY.out.cell 1 _ rfl
      by_cases hz : x1 < y1
      · have tz : decide (x1 < y1) = true := decide_eq_true hz
        have HQ := Lib.hid hz
        clear hz
        go_wp2
        go_quiet (fail)
        go_wp2
        go_ret
        exact ⟨ret_int (by rw [hv.out, cmp1_eq (HZ.out.1 (by omega)), cmp1_lt HQ.out]; simp), Bel.drewN hbr _⟩
      · have tz : decide (x1 < y1) = false := decide_eq_false hz
        have HQ := Lib.hid hz
        clear hz
        by_cases hz2 : y1 < x1
        · have tz2 : decide (y1 < x1) = true := decide_eq_true hz2
          have HQ2 := Lib.hid hz2
          clear hz2
          go_wp2
          go_quiet (fail)
          go_wp2
          go_quiet (fail)
          go_wp2
          go_ret
          exact ⟨ret_int (by rw [hv.out, cmp1_eq (HZ.out.1 (by omega)), cmp1_gt HQ2.out]; simp), Bel.drewN (Bel.drewN hbr _) _⟩
        · have tz2 : decide (y1 < x1) = false := decide_eq_false hz2
          have HQ2 := Lib.hid hz2
          clear hz2
          go_wp2
          go_quiet (fail)
          go_wp2
          go_quiet (fail)
          go_wp2
          exact ⟨⟨2, by omega, rfl, Lib.hid ⟨fun _ => HZ.out.1 (by omega), fun _ => (by have := HQ.out; have := HQ2.out; omega), fun h => by omega⟩, Lib.hid (HX.out.drewN _), Lib.hid (HY.out.drewN _), Bel.drewN hbr _⟩, by simp [intOf]⟩
    · have c0 := HX.out.cell 2 _ rfl
      have d0 := HY.out.cell 2 _ rfl
      by_cases hz : x2 < y2
      · have tz : decide (x2 < y2) = true := decide_eq_true hz
        have HQ := Lib.hid hz
        clear hz
        go_wp2
        go_quiet (fail)
        go_wp2
        go_ret
        exact ⟨ret_int (by rw [hv.out, cmp1_eq (HZ.out.1 (by omega)), cmp1_eq (HZ.out.2.1 (by omega)), cmp1_lt HQ.out]; simp), Bel.drewN hbr _⟩
      · have tz : decide (x2 < y2) = false := decide_eq_false hz
        have HQ := Lib.hid hz
        clear hz
        by_cases hz2 : y2 < x2
        · have tz2 : decide (y2 < x2) = true := decide_eq_true hz2
          have HQ2 := Lib.hid hz2
          clear hz2
          go_wp2
          go_quiet (fail)
          go_wp2
          go_quiet (fail)
          go_wp2
          go_ret
          exact ⟨ret_int (by rw [hv.out, cmp1_eq (HZ.out.1 (by omega)), cmp1_eq (HZ.out.2.1 (by omega)), cmp1_gt HQ2.out]; simp), Bel.drewN (Bel.drewN hbr _) _⟩
        · have tz2 : decide (y2 < x2) = false := decide_eq_false hz2
          have HQ2 := Lib.hid hz2
          clear hz2
          go_wp2
          go_quiet (fail)
          go_wp2
          go_quiet (fail)
          go_wp2
          exact ⟨⟨3, by omega, rfl, Lib.hid ⟨fun _ => HZ.out.1 (by omega), fun _ => HZ.out.2.1 (by omega), fun _ => (by have := HQ.out; have := HQ2.out; omega)⟩, Lib.hid (HX.out.drewN _), Lib.hid (HY.out.drewN _), Bel.drewN hbr _⟩, by simp [intOf]⟩
    · go_wp2
      go_ret
      exact ⟨ret_int (by rw [hv.out, cmp1_eq (HZ.out.1 (by omega)), cmp1_eq (HZ.out.2.1 (by omega)), cmp1_eq (HZ.out.2.2 (by omega))]; simp), hbr⟩

set_option maxHeartbeats 8000000 in
set_option maxRecDepth 8000 in
theorem refjoin_at (x y : Tm) (w : World) :
    Calls Tryz.prog 26 #[tmV x, tmV y] w fun e w' => e = .returned (tmV (joinV x y)) ∧ Below w.heap.size w w' := by
  obtain ⟨x0, x1, x2⟩ := x
  obtain ⟨y0, y1, y2⟩ := y
  have CX := Lib.hid (fun W => refnum_at x0 x1 x2 W)
  have CY := Lib.hid (fun W => refnum_at y0 y1 y2 W)
  simp only [tmV, joinV]
  go_enter Tryz.func26, Tryz.ntmps26
  go_upto_region 3 with (go_at_call 64; first | (with_reducible refine Calls.mono (CX.out _) ?_; rintro e w1 ⟨g1, rfl, hB1, hg1, hb1⟩; obtain ⟨hc1, hf1⟩ := Bel.cells hb1; have hz1 : w.heap.size < w1.heap.size := (by have := hb1.size; simp at this; omega); have hz1' : w.heap.size + 1 < w1.heap.size := (by have := hb1.size; simp at this; omega)) | (with_reducible refine Calls.mono (CY.out _) ?_; rintro e w2 ⟨g2, rfl, hB2, hg2, hb2⟩))
  have hB1' := hB1.later hb2
  have hR := ((Blk.new' (w := (w.alloc (.cells #[.int .u64 x0, .int .u64 x1, .int .u64 x2] 25)).alloc (.cells #[.int .u64 y0, .int .u64 y1, .int .u64 y2] 25)) (k := w.heap.size + 1 + 1) (cs := #[.int .u64 0, .int .u64 0, .int .u64 0]) (t := 25) (by simp)).later hb1).later hb2
  have hbw : Below w.heap.size w w2 := Bel.step' (Bel.step' (by (repeat first | exact Below.refl _ _ | assumption | refine Bel.alloc' ?_ _ | refine Bel.drewN ?_ _ | refine Below.drew ?_ | refine Bel.step' ?_ (by assumption))) hb1) hb2
  have hgw : w.heap.size + 1 + 1 < g1 := by simp at hg1; omega
  have hgg : g1 < g2 := by have := hB1.lt; omega
  clear hc1 hf1 hB1 hb1 hb2
  go_wp2
  go_loopw [7] (fun v7 wr => ∃ (k : Nat) (z0 z1 z2 : Int), k ≤ 3 ∧ v7 = .int .i64 k ∧ Hid (z0 = (if 0 < k then max x0 y0 else x0) ∧ z1 = (if 1 < k then max x1 y1 else x1) ∧ z2 = (if 2 < k then max x2 y2 else x2)) ∧ Hid (Blk wr g1 #[.int .u64 z0, .int .u64 z1, .int .u64 z2] 23) ∧ Hid (Blk wr g2 #[.int .u64 y0, .int .u64 y1, .int .u64 y2] 23) ∧ Hid (Blk wr (w.heap.size + 1 + 1) #[.int .u64 0, .int .u64 0, .int .u64 0] 25) ∧ Below w.heap.size w wr) (fun v7 _ => 3 - (intOf v7).toNat)
  case atStart => exact ⟨0, x0, x1, x2, by omega, rfl, Lib.hid ⟨by simp, by simp, by simp⟩, Lib.hid hB1', Lib.hid hB2, Lib.hid hR, hbw⟩
  case round =>
    obtain ⟨k, z0, z1, z2, hk3, rfl, HZ, HX, HY, HR, hbr⟩ := hrel
    clear hB1' hB2 hbw hR
    rcases (show k = 0 ∨ k = 1 ∨ k = 2 ∨ k = 3 by omega) with rfl | rfl | rfl | rfl
    · have c0 := HX.out.cell 0 _ rfl
      have d0 := HY.out.cell 0 _ rfl
      have pf := HX.out.frozen 0
      by_cases hz : z0 < y0
      · have tz : decide (z0 < y0) = true := decide_eq_true hz
        have HQ := Lib.hid hz
        clear hz
        go_wp2
        go_quiet (fail)
        go_wp2
        refine ⟨⟨1, y0, z1, z2, by omega, rfl, Lib.hid ?_, Lib.hid ((HX.out.drewN _).set 0 _), Lib.hid ((HY.out.drewN _).setOther _ _ (by show g2 ≠ g1; omega)), Lib.hid ((HR.out.drewN _).setOther _ _ (by show w.heap.size + 1 + 1 ≠ g1; omega)), (Bel.drewN hbr _).setCell (by show w.heap.size ≤ g1; omega) _⟩, by simp [intOf]⟩
        have h1 := HZ.out
        have h2 := HQ.out
        simp at h1 ⊢
        omega
      · have tz : decide (z0 < y0) = false := decide_eq_false hz
        have HQ := Lib.hid hz
        clear hz
        go_wp2
        go_quiet (fail)
        go_wp2
        refine ⟨⟨1, z0, z1, z2, by omega, rfl, Lib.hid ?_, Lib.hid (HX.out.drewN _), Lib.hid (HY.out.drewN _), Lib.hid (HR.out.drewN _), Bel.drewN hbr _⟩, by simp [intOf]⟩
        have h1 := HZ.out
        have h2 := HQ.out
        simp at h1 ⊢
        omega
    · have c0 := HX.out.cell 1 _ rfl
      have d0 := HY.out.cell 1 _ rfl
      have pf := HX.out.frozen 1
      by_cases hz : z1 < y1
      · have tz : decide (z1 < y1) = true := decide_eq_true hz
        have HQ := Lib.hid hz
        clear hz
        go_wp2
        go_quiet (fail)
        go_wp2
        refine ⟨⟨2, z0, y1, z2, by omega, rfl, Lib.hid ?_, Lib.hid ((HX.out.drewN _).set 1 _), Lib.hid ((HY.out.drewN _).setOther _ _ (by show g2 ≠ g1; omega)), Lib.hid ((HR.out.drewN _).setOther _ _ (by show w.heap.size + 1 + 1 ≠ g1; omega)), (Bel.drewN hbr _).setCell (by show w.heap.size ≤ g1; omega) _⟩, by simp [intOf]⟩
        have h1 := HZ.out
        have h2 := HQ.out
        simp at h1 ⊢
        omega
      · have tz : decide (z1 < y1) = false := decide_eq_false hz
        have HQ := Lib.hid hz
        clear hz
        go_wp2
        go_quiet (fail)
        go_wp2
        refine ⟨⟨2, z0, z1, z2, by omega, rfl, Lib.hid ?_, Lib.hid (HX.out.drewN _), Lib.hid (HY.out.drewN _), Lib.hid (HR.out.drewN _), Bel.drewN hbr _⟩, by simp [intOf]⟩
        have h1 := HZ.out
        have h2 := HQ.out
        simp at h1 ⊢
        omega
    · have c0 := HX.out.cell 2 _ rfl
      have d0 := HY.out.cell 2 _ rfl
      have pf := HX.out.frozen 2
      by_cases hz : z2 < y2
      · have tz : decide (z2 < y2) = true := decide_eq_true hz
        have HQ := Lib.hid hz
        clear hz
        go_wp2
        go_quiet (fail)
        go_wp2
        refine ⟨⟨3, z0, z1, y2, by omega, rfl, Lib.hid ?_, Lib.hid ((HX.out.drewN _).set 2 _), Lib.hid ((HY.out.drewN _).setOther _ _ (by show g2 ≠ g1; omega)), Lib.hid ((HR.out.drewN _).setOther _ _ (by show w.heap.size + 1 + 1 ≠ g1; omega)), (Bel.drewN hbr _).setCell (by show w.heap.size ≤ g1; omega) _⟩, by simp [intOf]⟩
        have h1 := HZ.out
        have h2 := HQ.out
        simp at h1 ⊢
        omega
      · have tz : decide (z2 < y2) = false := decide_eq_false hz
        have HQ := Lib.hid hz
        clear hz
        go_wp2
        go_quiet (fail)
        go_wp2
        refine ⟨⟨3, z0, z1, z2, by omega, rfl, Lib.hid ?_, Lib.hid (HX.out.drewN _), Lib.hid (HY.out.drewN _), Lib.hid (HR.out.drewN _), Bel.drewN hbr _⟩, by simp [intOf]⟩
        have h1 := HZ.out
        have h2 := HQ.out
        simp at h1 ⊢
        omega
    · have hz := HZ.out
      simp at hz
      obtain ⟨rfl, rfl, rfl⟩ := hz
      have RT := Lib.hid (reftime_at _ _ _ g1 wr HX.out)
      have hlt := HR.out.lt
      have HRR := HR
      have r0 := HR.out.cell 0 _ rfl
      have r1 := HR.out.cell 1 _ rfl
      have r2 := HR.out.cell 2 _ rfl
      have rf := HR.out.frozen
      go_wp2_with (go_at_call 69; refine RT.out.mono ?_; rintro e w5 ⟨rfl, hb5⟩; obtain ⟨hc5, hf5⟩ := Bel.cells hb5)
      obtain ⟨HRz, hbZ⟩ := res_row (x := .int .u64 (max x0 y0)) (y := .int .u64 (max x1 y1)) (z := .int .u64 (max x2 y2)) HRR.out hb5 hbr (show w.heap.size ≤ w.heap.size + 1 + 1 by omega)
      clear r0 r1 r2 rf hc5 hf5
      generalize (((w5.setCell ⟨w.heap.size + 1 + 1, 0, none⟩ (.int .u64 (max x0 y0))).setCell ⟨w.heap.size + 1 + 1, 1, none⟩ (.int .u64 (max x1 y1))).setCell ⟨w.heap.size + 1 + 1, 2, none⟩ (.int .u64 (max x2 y2))) = Z at HRz hbZ ⊢
      have z0 := HRz.cell 0 _ rfl
      have z1 := HRz.cell 1 _ rfl
      have z2 := HRz.cell 2 _ rfl
      refine bodyPost_ret (v := .agg #[.int .u64 (max x0 y0), .int .u64 (max x1 y1), .int .u64 (max x2 y2)]) (by simp [results, Tryz.results26, go_sem, z0, z1, z2]) rfl ⟨rfl, hbZ⟩

set_option maxHeartbeats 8000000 in
set_option maxRecDepth 8000 in
theorem refmeet_at (x y : Tm) (w : World) :
    Calls Tryz.prog 28 #[tmV x, tmV y] w fun e w' => e = .returned (tmV (meetV x y)) ∧ Below w.heap.size w w' := by
  obtain ⟨x0, x1, x2⟩ := x
  obtain ⟨y0, y1, y2⟩ := y
  have CX := Lib.hid (fun W => refnum_at x0 x1 x2 W)
  have CY := Lib.hid (fun W => refnum_at y0 y1 y2 W)
  simp only [tmV, meetV]
  go_enter Tryz.func28, Tryz.ntmps28
  go_upto_region 3 with (go_at_call 64; first | (with_reducible refine Calls.mono (CX.out _) ?_; rintro e w1 ⟨g1, rfl, hB1, hg1, hb1⟩; obtain ⟨hc1, hf1⟩ := Bel.cells hb1; have hz1 : w.heap.size < w1.heap.size := (by have := hb1.size; simp at this; omega); have hz1' : w.heap.size + 1 < w1.heap.size := (by have := hb1.size; simp at this; omega)) | (with_reducible refine Calls.mono (CY.out _) ?_; rintro e w2 ⟨g2, rfl, hB2, hg2, hb2⟩))
  have hB1' := hB1.later hb2
  have hR := ((Blk.new' (w := (w.alloc (.cells #[.int .u64 x0, .int .u64 x1, .int .u64 x2] 25)).alloc (.cells #[.int .u64 y0, .int .u64 y1, .int .u64 y2] 25)) (k := w.heap.size + 1 + 1) (cs := #[.int .u64 0, .int .u64 0, .int .u64 0]) (t := 25) (by simp)).later hb1).later hb2
  have hbw : Below w.heap.size w w2 := Bel.step' (Bel.step' (by (repeat first | exact Below.refl _ _ | assumption | refine Bel.alloc' ?_ _ | refine Bel.drewN ?_ _ | refine Below.drew ?_ | refine Bel.step' ?_ (by assumption))) hb1) hb2
  have hgw : w.heap.size + 1 + 1 < g1 := by simp at hg1; omega
  have hgg : g1 < g2 := by have := hB1.lt; omega
  clear hc1 hf1 hB1 hb1 hb2
  go_wp2
  go_loopw [7] (fun v7 wr => ∃ (k : Nat) (z0 z1 z2 : Int), k ≤ 3 ∧ v7 = .int .i64 k ∧ Hid (z0 = (if 0 < k then min x0 y0 else x0) ∧ z1 = (if 1 < k then min x1 y1 else x1) ∧ z2 = (if 2 < k then min x2 y2 else x2)) ∧ Hid (Blk wr g1 #[.int .u64 z0, .int .u64 z1, .int .u64 z2] 23) ∧ Hid (Blk wr g2 #[.int .u64 y0, .int .u64 y1, .int .u64 y2] 23) ∧ Hid (Blk wr (w.heap.size + 1 + 1) #[.int .u64 0, .int .u64 0, .int .u64 0] 25) ∧ Below w.heap.size w wr) (fun v7 _ => 3 - (intOf v7).toNat)
  case atStart => exact ⟨0, x0, x1, x2, by omega, rfl, Lib.hid ⟨by simp, by simp, by simp⟩, Lib.hid hB1', Lib.hid hB2, Lib.hid hR, hbw⟩
  case round =>
    obtain ⟨k, z0, z1, z2, hk3, rfl, HZ, HX, HY, HR, hbr⟩ := hrel
    clear hB1' hB2 hbw hR
    rcases (show k = 0 ∨ k = 1 ∨ k = 2 ∨ k = 3 by omega) with rfl | rfl | rfl | rfl
    · have c0 := HX.out.cell 0 _ rfl
      have d0 := HY.out.cell 0 _ rfl
      have pf := HX.out.frozen 0
      by_cases hz : y0 < z0
      · have tz : decide (y0 < z0) = true := decide_eq_true hz
        have HQ := Lib.hid hz
        clear hz
        go_wp2
        go_quiet (fail)
        go_wp2
        refine ⟨⟨1, y0, z1, z2, by omega, rfl, Lib.hid ?_, Lib.hid ((HX.out.drewN _).set 0 _), Lib.hid ((HY.out.drewN _).setOther _ _ (by show g2 ≠ g1; omega)), Lib.hid ((HR.out.drewN _).setOther _ _ (by show w.heap.size + 1 + 1 ≠ g1; omega)), (Bel.drewN hbr _).setCell (by show w.heap.size ≤ g1; omega) _⟩, by simp [intOf]⟩
        have h1 := HZ.out
        have h2 := HQ.out
        simp at h1 ⊢
        omega
      · have tz : decide (y0 < z0) = false := decide_eq_false hz
        have HQ := Lib.hid hz
        clear hz
        go_wp2
        go_quiet (fail)
        go_wp2
        refine ⟨⟨1, z0, z1, z2, by omega, rfl, Lib.hid ?_, Lib.hid (HX.out.drewN _), Lib.hid (HY.out.drewN _), Lib.hid (HR.out.drewN _), Bel.drewN hbr _⟩, by simp [intOf]⟩
        have h1 := HZ.out
        have h2 := HQ.out
        simp at h1 ⊢
        omega
    · have c0 := HX.out.cell 1 _ rfl
      have d0 := HY.out.cell 1 _ rfl
      have pf := HX.out.frozen 1
      by_cases hz : y1 < z1
      · have tz : decide (y1 < z1) = true := decide_eq_true hz
        have HQ := Lib.hid hz
        clear hz
        go_wp2
        go_quiet (fail)
        go_wp2
        refine ⟨⟨2, z0, y1, z2, by omega, rfl, Lib.hid ?_, Lib.hid ((HX.out.drewN _).set 1 _), Lib.hid ((HY.out.drewN _).setOther _ _ (by show g2 ≠ g1; omega)), Lib.hid ((HR.out.drewN _).setOther _ _ (by show w.heap.size + 1 + 1 ≠ g1; omega)), (Bel.drewN hbr _).setCell (by show w.heap.size ≤ g1; omega) _⟩, by simp [intOf]⟩
        have h1 := HZ.out
        have h2 := HQ.out
        simp at h1 ⊢
        omega
      · have tz : decide (y1 < z1) = false := decide_eq_false hz
        have HQ := Lib.hid hz
        clear hz
        go_wp2
        go_quiet (fail)
        go_wp2
        refine ⟨⟨2, z0, z1, z2, by omega, rfl, Lib.hid ?_, Lib.hid (HX.out.drewN _), Lib.hid (HY.out.drewN _), Lib.hid (HR.out.drewN _), Bel.drewN hbr _⟩, by simp [intOf]⟩
        have h1 := HZ.out
        have h2 := HQ.out
        simp at h1 ⊢
        omega
    · have c0 := HX.out.cell 2 _ rfl
      have d0 := HY.out.cell 2 _ rfl
      have pf := HX.out.frozen 2
      by_cases hz : y2 < z2
      · have tz : decide (y2 < z2) = true := decide_eq_true hz
        have HQ := Lib.hid hz
        clear hz
        go_wp2
        go_quiet (fail)
        go_wp2
        refine ⟨⟨3, z0, z1, y2, by omega, rfl, Lib.hid ?_, Lib.hid ((HX.out.drewN _).set 2 _), Lib.hid ((HY.out.drewN _).setOther _ _ (by show g2 ≠ g1; omega)), Lib.hid ((HR.out.drewN _).setOther _ _ (by show w.heap.size + 1 + 1 ≠ g1; omega)), (Bel.drewN hbr _).setCell (by show w.heap.size ≤ g1; omega) _⟩, by simp [intOf]⟩
        have h1 := HZ.out
        have h2 := HQ.out
        simp at h1 ⊢
        omega
      · have tz : decide (y2 < z2) = false := decide_eq_false hz
        have HQ := Lib.hid hz
        clear hz
        go_wp2
        go_quiet (fail)
        go_wp2
        refine ⟨⟨3, z0, z1, z2, by omega, rfl, Lib.hid ?_, Lib.hid (HX.out.drewN _), Lib.hid (HY.out.drewN _), Lib.hid (HR.out.drewN _), Bel.drewN hbr _⟩, by simp [intOf]⟩
        have h1 := HZ.out
        have h2 := HQ.out
        simp at h1 ⊢
        omega
    · have hz := HZ.out
      simp at hz
      obtain ⟨rfl, rfl, rfl⟩ := hz
      have RT := Lib.hid (reftime_at _ _ _ g1 wr HX.out)
      have hlt := HR.out.lt
      have HRR := HR
      have r0 := HR.out.cell 0 _ rfl
      have r1 := HR.out.cell 1 _ rfl
      have r2 := HR.out.cell 2 _ rfl
      have rf := HR.out.frozen
      go_wp2_with (go_at_call 69; refine RT.out.mono ?_; rintro e w5 ⟨rfl, hb5⟩; obtain ⟨hc5, hf5⟩ := Bel.cells hb5)
      obtain ⟨HRz, hbZ⟩ := res_row (x := .int .u64 (min x0 y0)) (y := .int .u64 (min x1 y1)) (z := .int .u64 (min x2 y2)) HRR.out hb5 hbr (show w.heap.size ≤ w.heap.size + 1 + 1 by omega)
      clear r0 r1 r2 rf hc5 hf5
      generalize (((w5.setCell ⟨w.heap.size + 1 + 1, 0, none⟩ (.int .u64 (min x0 y0))).setCell ⟨w.heap.size + 1 + 1, 1, none⟩ (.int .u64 (min x1 y1))).setCell ⟨w.heap.size + 1 + 1, 2, none⟩ (.int .u64 (min x2 y2))) = Z at HRz hbZ ⊢
      have z0 := HRz.cell 0 _ rfl
      have z1 := HRz.cell 1 _ rfl
      have z2 := HRz.cell 2 _ rfl
      refine bodyPost_ret (v := .agg #[.int .u64 (min x0 y0), .int .u64 (min x1 y1), .int .u64 (min x2 y2)]) (by simp [results, Tryz.results28, go_sem, z0, z1, z2]) rfl ⟨rfl, hbZ⟩
end Go.Proofs.YtiiegpklpmogmaaGreatDoor
