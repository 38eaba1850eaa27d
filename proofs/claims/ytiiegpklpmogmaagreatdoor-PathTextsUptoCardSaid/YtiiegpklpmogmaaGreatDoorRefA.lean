/- The document's own answer for chapter 1: numbers, Fits, time. -/
import Derived.Test.YtiiegpklpmogmaaGreatDoorSt16
import Derived.Test.YtiiegpklpmogmaaGreatDoorStPlain7
set_option linter.unusedVariables false
set_option linter.unusedSimpArgs false
namespace Go.Proofs.YtiiegpklpmogmaaGreatDoor
open Go.RowKit

set_option maxHeartbeats 1000000 in
theorem refnum_at (a b c : Int) (w : World) :
    Calls Tryz.prog 64 #[.agg #[.int .u64 a, .int .u64 b, .int .u64 c]] w fun e w' => ∃ g, e = .returned (.slice (some ⟨g, 0, none⟩) 3 3) ∧ Blk w' g #[.int .u64 a, .int .u64 b, .int .u64 c] 23 ∧ w.heap.size ≤ g ∧ Below w.heap.size w w' := by
  go_enter Tryz.func64, Tryz.ntmps64
  go_wp2
  go_ret
  exact ⟨_, rfl, Blk.new' (by simp), by omega, by (repeat first | exact Below.refl _ _ | assumption | refine Bel.alloc' ?_ _ | refine Bel.drewN ?_ _ | refine Below.drew ?_ | refine Bel.step' ?_ (by assumption))⟩

set_option maxHeartbeats 1000000 in
theorem reffits_out (a b c n : Int) (w : World) (h : n < 1 ∨ n > 3) :
    Calls Tryz.prog 30 #[.agg #[.int .u64 a, .int .u64 b, .int .u64 c], .int .i64 n] w fun e w' => e = .returned (.int .i64 (fitsV a b c n)) ∧ Below w.heap.size w w' := by
  have e : fitsV a b c n = 10 := by unfold fitsV; rw [if_pos h]
  rw [e]
  clear e
  by_cases h1 : n < 1
  · have t1 : decide (n < 1) = true := decide_eq_true h1
    clear h
    go_enter Tryz.func30, Tryz.ntmps30
    go_wp2
    go_ret
    exact ⟨rfl, by (repeat first | exact Below.refl _ _ | assumption | refine Bel.alloc' ?_ _ | refine Bel.drewN ?_ _ | refine Below.drew ?_ | refine Bel.step' ?_ (by assumption))⟩
  · have t1 : decide (n < 1) = false := decide_eq_false h1
    have t2 : decide (3 < n) = true := decide_eq_true (by omega)
    clear h h1
    go_enter Tryz.func30, Tryz.ntmps30
    go_wp2
    go_ret
    exact ⟨rfl, by (repeat first | exact Below.refl _ _ | assumption | refine Bel.alloc' ?_ _ | refine Bel.drewN ?_ _ | refine Below.drew ?_ | refine Bel.step' ?_ (by assumption))⟩

set_option maxHeartbeats 2000000 in
theorem reffits_in (a b c : Int) (n : Nat) (w : World) (h1 : 1 ≤ n) (h3 : n ≤ 3) :
    Calls Tryz.prog 30 #[.agg #[.int .u64 a, .int .u64 b, .int .u64 c], .int .i64 n] w fun e w' => e = .returned (.int .i64 (fitsV a b c n)) ∧ Below w.heap.size w w' := by
  have t1 : decide ((n : Int) < 1) = false := decide_eq_false (by omega)
  have t2 : decide ((3 : Int) < n) = false := decide_eq_false (by omega)
  have CN := Lib.hid (fun W => refnum_at a b c W)
  have hv : Hid (fitsV a b c n = if (n ≤ 1 ∧ b ≠ 0) ∨ (n ≤ 2 ∧ c ≠ 0) then 10 else 0) := Lib.hid (by
    unfold fitsV
    rw [if_neg (by omega)]
    by_cases hh : (n ≤ 1 ∧ b ≠ 0) ∨ (n ≤ 2 ∧ c ≠ 0)
    · rw [if_pos hh, if_pos (by omega)]
    · rw [if_neg hh, if_neg (by omega)])
  generalize fitsV a b c n = v at hv ⊢
  go_enter Tryz.func30, Tryz.ntmps30
  go_wp2_with (go_at_call 64; refine (CN.out _).mono ?_; rintro e w1 ⟨g, rfl, hB1, hg1, hb1⟩)
  have hbw : Below w.heap.size w w1 := Bel.step' (by (repeat first | exact Below.refl _ _ | assumption | refine Bel.alloc' ?_ _ | refine Bel.drewN ?_ _ | refine Below.drew ?_ | refine Bel.step' ?_ (by assumption))) hb1
  have c0 := hB1.cell 0 _ rfl
  have c1 := hB1.cell 1 _ rfl
  have c2 := hB1.cell 2 _ rfl
  clear hB1 hb1
  go_loopw [6] (fun v6 wr => ∃ k : Nat, n ≤ k ∧ k ≤ 3 ∧ v6 = .int .i64 k ∧ Hid ((2 ≤ k → n ≤ 1 → b = 0) ∧ (3 ≤ k → n ≤ 2 → c = 0)) ∧ Hid (wr = w1)) (fun v6 _ => 3 - (intOf v6).toNat)
  case atStart => exact ⟨n, by omega, h3, rfl, Lib.hid ⟨fun h => by omega, fun h => by omega⟩, Lib.hid rfl⟩
  case round =>
    obtain ⟨k, hnk, hk3, rfl, HZ, HW⟩ := hrel
    obtain rfl := HW.out
    rcases (show k = 1 ∨ k = 2 ∨ k = 3 by omega) with rfl | rfl | rfl
    · by_cases hz : b = 0
      · have tz : (b != 0) = false := by simp [hz]
        have HB := Lib.hid hz
        clear hz
        go_wp2
        exact ⟨⟨2, by omega, by omega, rfl, Lib.hid ⟨fun _ _ => HB.out, fun h => by omega⟩, by first | exact Lib.hid rfl | trivial⟩, by simp [intOf]⟩
      · have tz : (b != 0) = true := by simp [hz]
        have HB := Lib.hid hz
        clear hz
        go_wp2
        go_ret
        exact ⟨ret_int (by rw [hv.out, if_pos (.inl ⟨by omega, HB.out⟩)]), hbw⟩
    · by_cases hz : c = 0
      · have tz : (c != 0) = false := by simp [hz]
        have HB := Lib.hid hz
        clear hz
        go_wp2
        exact ⟨⟨3, by omega, by omega, rfl, Lib.hid ⟨fun _ => HZ.out.1 (by omega), fun _ _ => HB.out⟩, by first | exact Lib.hid rfl | trivial⟩, by simp [intOf]⟩
      · have tz : (c != 0) = true := by simp [hz]
        have HB := Lib.hid hz
        clear hz
        go_wp2
        go_ret
        exact ⟨ret_int (by rw [hv.out, if_pos (.inr ⟨by omega, HB.out⟩)]), hbw⟩
    · go_wp2
      go_ret
      refine ⟨ret_int ?_, hbw⟩
      rw [hv.out, if_neg]
      intro h
      rcases h with ⟨h, h'⟩ | ⟨h, h'⟩
      · exact h' (HZ.out.1 (by omega) h)
      · exact h' (HZ.out.2 (by omega) h)
theorem reffits_at (a b c n : Int) (w : World) :
    Calls Tryz.prog 30 #[.agg #[.int .u64 a, .int .u64 b, .int .u64 c], .int .i64 n] w fun e w' => e = .returned (.int .i64 (fitsV a b c n)) ∧ Below w.heap.size w w' := by
  by_cases h : n < 1 ∨ n > 3
  · exact reffits_out a b c n w h
  · obtain ⟨m, rfl⟩ : ∃ m : Nat, n = m := ⟨n.toNat, by omega⟩
    exact reffits_in a b c m w (by omega) (by omega)

set_option maxHeartbeats 2000000 in
set_option maxRecDepth 8000 in
theorem reftime_at (a b c : Int) (g : Nat) (w : World) (hB : Blk w g #[.int .u64 a, .int .u64 b, .int .u64 c] 23) :
    Calls Tryz.prog 69 #[.slice (some ⟨g, 0, none⟩) 3 3] w fun e w' => e = .returned (.agg #[.int .u64 a, .int .u64 b, .int .u64 c]) ∧ Below w.heap.size w w' := by
  go_enter Tryz.func69, Tryz.ntmps69
  go_upto_region 1 with fail
  have hB1 := hB.alloc (.cells #[.int .u64 0, .int .u64 0, .int .u64 0] 25)
  have hr0 := Blk.new w #[.int .u64 0, .int .u64 0, .int .u64 0] 25
  have hbw : Below w.heap.size w (w.alloc (.cells #[.int .u64 0, .int .u64 0, .int .u64 0] 25)) := by (repeat first | exact Below.refl _ _ | assumption | refine Bel.alloc' ?_ _ | refine Bel.drewN ?_ _ | refine Below.drew ?_ | refine Bel.step' ?_ (by assumption))
  generalize w.alloc (.cells #[.int .u64 0, .int .u64 0, .int .u64 0] 25) = X at *
  refine wp_region_facts 10 (fun j v W => match j with
    | 0 => v = .slice (some ⟨g, 0, none⟩) 3 3
    | 1 => v = .pointer (some ⟨g, 0, none⟩)
    | 2 => v = .int .u64 a
    | 3 => v = .slice (some ⟨g, 0, none⟩) 3 3
    | 4 => v = .pointer (some ⟨g, 1, none⟩)
    | 5 => v = .int .u64 b
    | 6 => v = .slice (some ⟨g, 0, none⟩) 3 3
    | 7 => v = .pointer (some ⟨g, 2, none⟩)
    | 8 => v = .int .u64 c
    | _ => v = .agg #[.int .u64 a, .int .u64 b, .int .u64 c])
    (fun _ _ _ => False) (by kernel_rfl) (by kernel_rfl) (by intro j v W W' h hb; exact h) ?wk
  case wk =>
    simp only [List.take_succ_cons, List.take_zero, List.drop_succ_cons, List.drop_zero, Fct.walk]
    refine ⟨fun W hW hR => by (unfold Fct.opFct; go_simp; exact Below.refl _ _), fun v0 => ⟨fun W hW hR => by (unfold Fct.opFct; have hk := hR 0 (by kernel_rfl); simp at hk; subst hk; go_simp; exact Below.refl _ _), fun v1 => ⟨fun W hW hR => by (unfold Fct.opFct; have hk := hR 1 (by kernel_rfl); simp at hk; subst hk; have hcell := (Blk.later hB1 hW).cell 0 _ rfl; go_simp; exact Below.refl _ _), fun v2 => ⟨fun W hW hR => by (unfold Fct.opFct; go_simp; exact Below.refl _ _), fun v3 => ⟨fun W hW hR => by (unfold Fct.opFct; have hk := hR 3 (by kernel_rfl); simp at hk; subst hk; go_simp; exact Below.refl _ _), fun v4 => ⟨fun W hW hR => by (unfold Fct.opFct; have hk := hR 4 (by kernel_rfl); simp at hk; subst hk; have hcell := (Blk.later hB1 hW).cell 1 _ rfl; go_simp; exact Below.refl _ _), fun v5 => ⟨fun W hW hR => by (unfold Fct.opFct; go_simp; exact Below.refl _ _), fun v6 => ⟨fun W hW hR => by (unfold Fct.opFct; have hk := hR 6 (by kernel_rfl); simp at hk; subst hk; go_simp; exact Below.refl _ _), fun v7 => ⟨fun W hW hR => by (unfold Fct.opFct; have hk := hR 7 (by kernel_rfl); simp at hk; subst hk; have hcell := (Blk.later hB1 hW).cell 2 _ rfl; go_simp; exact Below.refl _ _), fun v8 => ⟨fun W hW hR => ?b, fun v9 W hW hR hO => ?t⟩⟩⟩⟩⟩⟩⟩⟩⟩⟩
    case b =>
      unfold Fct.opFct
      have h2 := hR 2 (by kernel_rfl)
      have h5 := hR 5 (by kernel_rfl)
      have h8 := hR 8 (by kernel_rfl)
      simp at h2 h5 h8
      subst h2; subst h5; subst h8
      go_simp
      exact Below.refl _ _
    case t =>
      have k9 := hR 9 (by omega)
      simp at k9
      subst k9
      clear hR hO
      simp only [Act.put, List.setIfInBounds_toArray, List.set_cons_zero, List.set_cons_succ]
      have hrW := hr0.later hW
      have p0 := hrW.cell 0 _ rfl
      have p1 := hrW.cell 1 _ rfl
      have p2 := hrW.cell 2 _ rfl
      have pf := hrW.frozen
      go_wp2
      obtain ⟨HR, hbZ⟩ := res_row (x := .int .u64 a) (y := .int .u64 b) (z := .int .u64 c) hr0 hW hbw (Nat.le_refl _)
      clear p0 p1 p2 pf hrW
      generalize (((W.setCell ⟨w.heap.size, 0, none⟩ (.int .u64 a)).setCell ⟨w.heap.size, 1, none⟩ (.int .u64 b)).setCell ⟨w.heap.size, 2, none⟩ (.int .u64 c)) = Z at HR hbZ ⊢
      have z0 := HR.cell 0 _ rfl
      have z1 := HR.cell 1 _ rfl
      have z2 := HR.cell 2 _ rfl
      refine bodyPost_ret (v := .agg #[.int .u64 a, .int .u64 b, .int .u64 c]) (by simp [results, Tryz.results69, go_sem, z0, z1, z2]) rfl ⟨rfl, hbZ⟩

end Go.Proofs.YtiiegpklpmogmaaGreatDoor
