/- stamp.each, walked: stamp.Join, stamp.Meet. -/
import Derived.Test.YtiiegpklpmogmaaGreatDoorSt4
import Derived.Shelf.RegionOpen
set_option linter.unusedVariables false
set_option linter.unusedSimpArgs false
namespace Go.Proofs.YtiiegpklpmogmaaGreatDoor
open Go.RowKit

set_option maxHeartbeats 400000 in
theorem join1_at (x y : Int) (w : World) : Calls Tryz.prog 68 #[.int .u64 x, .int .u64 y] w fun e w' => e = .returned (.int .u64 (max x y)) ∧ w' = w := by
  go_enter Tryz.func68, Tryz.ntmps68
  go_wp2
  all_goals
    go_ret
    exact ⟨ret_int (by omega), rfl⟩
set_option maxHeartbeats 400000 in
theorem meet1_at (x y : Int) (w : World) : Calls Tryz.prog 70 #[.int .u64 x, .int .u64 y] w fun e w' => e = .returned (.int .u64 (min x y)) ∧ w' = w := by
  go_enter Tryz.func70, Tryz.ntmps70
  go_wp2
  all_goals
    go_ret
    exact ⟨ret_int (by omega), rfl⟩

theorem six_other {W : World} {p q r t : Nat} {a b c d f g : Value} {cs : Array Value} (hr : Blk W r cs t) (hp : r ≠ p) (hq : r ≠ q) :
    Blk ((((((W.setCell ⟨p, 0, none⟩ a).setCell ⟨p, 1, none⟩ b).setCell ⟨p, 2, none⟩ c).setCell ⟨q, 0, none⟩ d).setCell ⟨q, 1, none⟩ f).setCell ⟨q, 2, none⟩ g) r cs t :=
  (((((hr.setOther ⟨p, 0, none⟩ a hp).setOther ⟨p, 1, none⟩ b hp).setOther ⟨p, 2, none⟩ c hp).setOther ⟨q, 0, none⟩ d hq).setOther ⟨q, 1, none⟩ f hq).setOther ⟨q, 2, none⟩ g hq
theorem six_below {w W : World} {p q : Nat} {a b c d f g : Value} (hW : Below w.heap.size w W) (hp : w.heap.size ≤ p) (hq : w.heap.size ≤ q) :
    Below w.heap.size w ((((((W.setCell ⟨p, 0, none⟩ a).setCell ⟨p, 1, none⟩ b).setCell ⟨p, 2, none⟩ c).setCell ⟨q, 0, none⟩ d).setCell ⟨q, 1, none⟩ f).setCell ⟨q, 2, none⟩ g) :=
  (((((hW.setCell (p := ⟨p, 0, none⟩) hp _).setCell (p := ⟨p, 1, none⟩) hp _).setCell (p := ⟨p, 2, none⟩) hp _).setCell (p := ⟨q, 0, none⟩) hq _).setCell (p := ⟨q, 1, none⟩) hq _).setCell (p := ⟨q, 2, none⟩) hq _

set_option maxHeartbeats 4000000 in
set_option maxRecDepth 8000 in
theorem each_at (x y : Tm) (fn : FuncId) (op : Int → Int → Int) (hf : ∀ x y W, Calls Tryz.prog fn #[.int .u64 x, .int .u64 y] W fun e w' => e = .returned (.int .u64 (op x y)) ∧ w' = W)
    (eF : ∀ args w, (callFunc fn args).run Tryz.prog w = .ok (.enter fn args) w) (w : World) :
    Calls Tryz.prog 67 #[tmV x, tmV y, .func (.func fn) #[] #[]] w fun e w' => e = .returned (tmV ⟨op x.a y.a, op x.b y.b, op x.c y.c⟩) ∧ Below w.heap.size w w' := by
  obtain ⟨a, b, c⟩ := x
  obtain ⟨d, f, g⟩ := y
  simp only [tmV]
  have CF := Lib.hid hf
  clear hf
  go_enter Tryz.func67, Tryz.ntmps67
  go_wp2
  refine wp_region_facts 6 (fun j v W => match j with
    | 0 => v = .agg #[.int .u64 a, .int .u64 b, .int .u64 c]
    | 1 => v = .agg #[.int .u64 a, .int .u64 b, .int .u64 c]
    | 2 => v = .agg #[.int .u64 d, .int .u64 f, .int .u64 g]
    | 3 => v = .agg #[.int .u64 d, .int .u64 f, .int .u64 g]
    | _ => ∃ p, v = .pointer (some ⟨p, 0, none⟩) ∧ w.heap.size + 2 < p ∧ Blk W p #[.int .u64 0, .int .u64 0, .int .u64 0] 81)
    (fun j v p => match j with | 4 => v = .pointer (some ⟨p, 0, none⟩) | 5 => v = .pointer (some ⟨p, 0, none⟩) | _ => False) (by kernel_rfl) (by kernel_rfl) ?st ?wk
  case st =>
    intro j v W W' h hb
    match j with
    | 0 => exact h
    | 1 => exact h
    | 2 => exact h
    | 3 => exact h
    | (j + 4) => obtain ⟨p, e, h1, h2⟩ := h; exact ⟨p, e, h1, h2.later hb⟩
  case wk =>
    simp only [List.take_succ_cons, List.take_zero, List.drop_succ_cons, List.drop_zero, Fct.walk]
    refine ⟨fun W hW hR => ?_, fun v0 => ⟨fun W hW hR => ?_, fun v1 => ⟨fun W hW hR => ?_, fun v2 => ⟨fun W hW hR => ?_, fun v3 => ⟨fun W hW hR => ?_, fun v4 => ⟨fun W hW hR => ?_, fun v5 W hW hR hO => ?_⟩⟩⟩⟩⟩⟩
    all_goals try unfold Fct.opFct
    case refine_1 => obtain ⟨hc, hf⟩ := Bel.cells hW; go_simp; exact Below.refl _ _
    case refine_2 => have h0 := hR 0 (by kernel_rfl); simp at h0; subst h0; go_simp; exact (numbers_at _ _ _ _).mono (by rintro e w1 ⟨rfl, hb⟩; exact ⟨rfl, hb⟩)
    case refine_3 => obtain ⟨hc, hf⟩ := Bel.cells hW; go_simp; exact Below.refl _ _
    case refine_4 => have h0 := hR 2 (by kernel_rfl); simp at h0; subst h0; go_simp; exact (numbers_at _ _ _ _).mono (by rintro e w1 ⟨rfl, hb⟩; exact ⟨rfl, hb⟩)
    case refine_5 => have hsz := hW.size; simp at hsz; go_simp; exact ⟨Bel.alloc' (Below.refl _ _) _, by omega, Blk.new _ _ _⟩
    case refine_6 => have hsz := hW.size; simp at hsz; go_simp; exact ⟨Bel.alloc' (Below.refl _ _) _, by omega, Blk.new _ _ _⟩
    case refine_7 =>
      have h0 := hR 0 (by omega); have h2 := hR 2 (by omega); have h1 := hR 1 (by omega); have h3 := hR 3 (by omega); have h4 := hR 4 (by omega); have h5 := hR 5 (by omega)
      have h45 := fun b => hO 4 5 b (by omega) (by omega) (by omega)
      simp at h0 h1 h2 h3 h4 h5 h45
      subst h0; subst h1; subst h2; subst h3
      obtain ⟨p, rfl, hp1, hp⟩ := h4
      obtain ⟨q, rfl, hq1, hq⟩ := h5
      have hqp : q ≠ p := by simpa using h45
      have hpq : p ≠ q := fun e => hqp e.symm
      clear hR hO h45
      simp only [Act.put, List.setIfInBounds_toArray, List.set_cons_zero, List.set_cons_succ]
      have p0 := hp.cell 0 _ rfl
      have p1 := hp.cell 1 _ rfl
      have p2 := hp.cell 2 _ rfl
      have q0 := hq.cell 0 _ rfl
      have q1 := hq.cell 1 _ rfl
      have q2 := hq.cell 2 _ rfl
      have pf := hp.frozen
      have qf := hq.frozen
      go_wp2
      have HB := two_rows (a := .int .u64 a) (b := .int .u64 b) (c := .int .u64 c) (d := .int .u64 d) (f := .int .u64 f) (g := .int .u64 g) hp hq hpq
      have hr0 : Blk (((w.alloc (.cells #[.int .u64 a, .int .u64 b, .int .u64 c] 25)).alloc (.cells #[.int .u64 d, .int .u64 f, .int .u64 g] 25)).alloc (.cells #[.int .u64 0, .int .u64 0, .int .u64 0] 25)) (w.heap.size + 1 + 1) #[.int .u64 0, .int .u64 0, .int .u64 0] 25 := by
        have := Blk.new ((w.alloc (.cells #[.int .u64 a, .int .u64 b, .int .u64 c] 25)).alloc (.cells #[.int .u64 d, .int .u64 f, .int .u64 g] 25)) #[.int .u64 0, .int .u64 0, .int .u64 0] 25
        simpa using this
      have hrX := six_other (a := .int .u64 a) (b := .int .u64 b) (c := .int .u64 c) (d := .int .u64 d) (f := .int .u64 f) (g := .int .u64 g) (hr0.later hW) (show w.heap.size + 1 + 1 ≠ p by omega) (show w.heap.size + 1 + 1 ≠ q by omega)
      have hbX := six_below (a := .int .u64 a) (b := .int .u64 b) (c := .int .u64 c) (d := .int .u64 d) (f := .int .u64 f) (g := .int .u64 g) (show Below w.heap.size w W from Bel.step' (by (repeat first | exact Below.refl _ _ | assumption | refine Bel.alloc' ?_ _ | refine Bel.drewN ?_ _ | refine Below.drew ?_ | refine Bel.step' ?_ (by assumption))) hW) (show w.heap.size ≤ p by omega) (show w.heap.size ≤ q by omega)
      obtain ⟨HP, HQ⟩ := HB
      clear p0 p1 p2 q0 q1 q2 pf qf hp hq hr0
      generalize ((((((W.setCell ⟨p, 0, none⟩ (.int .u64 a)).setCell ⟨p, 1, none⟩ (.int .u64 b)).setCell ⟨p, 2, none⟩ (.int .u64 c)).setCell ⟨q, 0, none⟩ (.int .u64 d)).setCell ⟨q, 1, none⟩ (.int .u64 f)).setCell ⟨q, 2, none⟩ (.int .u64 g)) = X at HP HQ hrX hbX ⊢
      clear hW W
      have hrp : w.heap.size + 1 + 1 ≠ p := by omega
      have hp2 : w.heap.size ≤ p := by omega
      refine wp_loop_rounds 4 ?_
      rw [rounds_succ]
      go_wp2
      (refine wp_region_facts 9 (fun j v W => match j with | 0 => v = .int .i64 0 | 1 => v = .func (.func fn) #[] #[] | 2 => v = .int .i64 0 | 3 => v = .pointer (some ⟨p, 0, none⟩) | 4 => v = .int .u64 a | 5 => v = .int .i64 0 | 6 => v = .pointer (some ⟨q, 0, none⟩) | 7 => v = .int .u64 d | _ => v = .int .u64 (op a d)) (fun _ _ _ => False) (by kernel_rfl) (by kernel_rfl) (by intro j v W W' h hb; exact h) ?_; simp only [List.take_succ_cons, List.take_zero, List.drop_succ_cons, List.drop_zero, Fct.walk]; refine ⟨fun W hW hR => by (unfold Fct.opFct; go_simp; exact Below.refl _ _), fun v0 => ⟨fun W hW hR => by (unfold Fct.opFct; go_simp; exact Below.refl _ _), fun v1 => ⟨fun W hW hR => by (unfold Fct.opFct; go_simp; exact Below.refl _ _), fun v2 => ⟨fun W hW hR => by (unfold Fct.opFct; have hk := hR 2 (by kernel_rfl); simp at hk; subst hk; go_simp; exact Below.refl _ _), fun v3 => ⟨fun W hW hR => by (unfold Fct.opFct; have hk := hR 3 (by kernel_rfl); simp at hk; subst hk; have hcell := (Blk.below HP hW HP.lt).cell 0 _ rfl; go_simp; exact Below.refl _ _), fun v4 => ⟨fun W hW hR => by (unfold Fct.opFct; go_simp; exact Below.refl _ _), fun v5 => ⟨fun W hW hR => by (unfold Fct.opFct; have hk := hR 5 (by kernel_rfl); simp at hk; subst hk; go_simp; exact Below.refl _ _), fun v6 => ⟨fun W hW hR => by (unfold Fct.opFct; have hk := hR 6 (by kernel_rfl); simp at hk; subst hk; have hcell := (Blk.below HQ hW HQ.lt).cell 0 _ rfl; go_simp; exact Below.refl _ _), fun v7 => ⟨fun W hW hR => by (unfold Fct.opFct; have h1 := hR 1 (by kernel_rfl); have h4 := hR 4 (by kernel_rfl); have h7 := hR 7 (by kernel_rfl); simp at h1 h4 h7; subst h1; subst h4; subst h7; go_simp; exact (CF.out _ _ _).mono (by rintro e w1 ⟨rfl, rfl⟩; exact ⟨rfl, Below.refl _ _⟩)), fun v8 W hW hR hO => ?_⟩⟩⟩⟩⟩⟩⟩⟩⟩)
      (have k0 := hR 0 (by omega); have k1 := hR 1 (by omega); have k2 := hR 2 (by omega); have k3 := hR 3 (by omega); have k4 := hR 4 (by omega); have k5 := hR 5 (by omega); have k6 := hR 6 (by omega); have k7 := hR 7 (by omega); have k8 := hR 8 (by omega); simp at k0 k1 k2 k3 k4 k5 k6 k7 k8; subst k0; subst k1; subst k2; subst k3; subst k4; subst k5; subst k6; subst k7; subst k8; clear hR hO; simp only [Act.put, List.setIfInBounds_toArray, List.set_cons_zero, List.set_cons_succ]; replace HP := HP.below hW HP.lt; replace HQ := HQ.below hW HQ.lt; replace hrX := hrX.below hW hrX.lt; replace hbX := Bel.step' hbX hW; have pc := HP.cell 0 _ rfl; have pf := HP.frozen 0; go_wp2; clear pc pf; replace HP : Blk (W.setCell ⟨p, 0, none⟩ (.int .u64 (op a d))) p #[.int .u64 (op a d), .int .u64 b, .int .u64 c] 81 := HP.set 0 _; replace HQ := HQ.setOther ⟨p, 0, none⟩ (.int .u64 (op a d)) hqp; replace hrX := hrX.setOther ⟨p, 0, none⟩ (.int .u64 (op a d)) hrp; replace hbX := hbX.setCell (p := ⟨p, 0, none⟩) hp2 (.int .u64 (op a d)); generalize W.setCell ⟨p, 0, none⟩ (.int .u64 (op a d)) = Y at HP HQ hrX hbX ⊢; clear hW W X; rename World => X)
      rw [rounds_succ]
      go_wp2
      (refine wp_region_facts 9 (fun j v W => match j with | 0 => v = .int .i64 1 | 1 => v = .func (.func fn) #[] #[] | 2 => v = .int .i64 1 | 3 => v = .pointer (some ⟨p, 1, none⟩) | 4 => v = .int .u64 b | 5 => v = .int .i64 1 | 6 => v = .pointer (some ⟨q, 1, none⟩) | 7 => v = .int .u64 f | _ => v = .int .u64 (op b f)) (fun _ _ _ => False) (by kernel_rfl) (by kernel_rfl) (by intro j v W W' h hb; exact h) ?_; simp only [List.take_succ_cons, List.take_zero, List.drop_succ_cons, List.drop_zero, Fct.walk]; refine ⟨fun W hW hR => by (unfold Fct.opFct; go_simp; exact Below.refl _ _), fun v0 => ⟨fun W hW hR => by (unfold Fct.opFct; go_simp; exact Below.refl _ _), fun v1 => ⟨fun W hW hR => by (unfold Fct.opFct; go_simp; exact Below.refl _ _), fun v2 => ⟨fun W hW hR => by (unfold Fct.opFct; have hk := hR 2 (by kernel_rfl); simp at hk; subst hk; go_simp; exact Below.refl _ _), fun v3 => ⟨fun W hW hR => by (unfold Fct.opFct; have hk := hR 3 (by kernel_rfl); simp at hk; subst hk; have hcell := (Blk.below HP hW HP.lt).cell 1 _ rfl; go_simp; exact Below.refl _ _), fun v4 => ⟨fun W hW hR => by (unfold Fct.opFct; go_simp; exact Below.refl _ _), fun v5 => ⟨fun W hW hR => by (unfold Fct.opFct; have hk := hR 5 (by kernel_rfl); simp at hk; subst hk; go_simp; exact Below.refl _ _), fun v6 => ⟨fun W hW hR => by (unfold Fct.opFct; have hk := hR 6 (by kernel_rfl); simp at hk; subst hk; have hcell := (Blk.below HQ hW HQ.lt).cell 1 _ rfl; go_simp; exact Below.refl _ _), fun v7 => ⟨fun W hW hR => by (unfold Fct.opFct; have h1 := hR 1 (by kernel_rfl); have h4 := hR 4 (by kernel_rfl); have h7 := hR 7 (by kernel_rfl); simp at h1 h4 h7; subst h1; subst h4; subst h7; go_simp; exact (CF.out _ _ _).mono (by rintro e w1 ⟨rfl, rfl⟩; exact ⟨rfl, Below.refl _ _⟩)), fun v8 W hW hR hO => ?_⟩⟩⟩⟩⟩⟩⟩⟩⟩)
      (have k0 := hR 0 (by omega); have k1 := hR 1 (by omega); have k2 := hR 2 (by omega); have k3 := hR 3 (by omega); have k4 := hR 4 (by omega); have k5 := hR 5 (by omega); have k6 := hR 6 (by omega); have k7 := hR 7 (by omega); have k8 := hR 8 (by omega); simp at k0 k1 k2 k3 k4 k5 k6 k7 k8; subst k0; subst k1; subst k2; subst k3; subst k4; subst k5; subst k6; subst k7; subst k8; clear hR hO; simp only [Act.put, List.setIfInBounds_toArray, List.set_cons_zero, List.set_cons_succ]; replace HP := HP.below hW HP.lt; replace HQ := HQ.below hW HQ.lt; replace hrX := hrX.below hW hrX.lt; replace hbX := Bel.step' hbX hW; have pc := HP.cell 1 _ rfl; have pf := HP.frozen 1; go_wp2; clear pc pf; replace HP : Blk (W.setCell ⟨p, 1, none⟩ (.int .u64 (op b f))) p #[.int .u64 (op a d), .int .u64 (op b f), .int .u64 c] 81 := HP.set 1 _; replace HQ := HQ.setOther ⟨p, 1, none⟩ (.int .u64 (op b f)) hqp; replace hrX := hrX.setOther ⟨p, 1, none⟩ (.int .u64 (op b f)) hrp; replace hbX := hbX.setCell (p := ⟨p, 1, none⟩) hp2 (.int .u64 (op b f)); generalize W.setCell ⟨p, 1, none⟩ (.int .u64 (op b f)) = Y at HP HQ hrX hbX ⊢; clear hW W X; rename World => X)
      rw [rounds_succ]
      go_wp2
      (refine wp_region_facts 9 (fun j v W => match j with | 0 => v = .int .i64 2 | 1 => v = .func (.func fn) #[] #[] | 2 => v = .int .i64 2 | 3 => v = .pointer (some ⟨p, 2, none⟩) | 4 => v = .int .u64 c | 5 => v = .int .i64 2 | 6 => v = .pointer (some ⟨q, 2, none⟩) | 7 => v = .int .u64 g | _ => v = .int .u64 (op c g)) (fun _ _ _ => False) (by kernel_rfl) (by kernel_rfl) (by intro j v W W' h hb; exact h) ?_; simp only [List.take_succ_cons, List.take_zero, List.drop_succ_cons, List.drop_zero, Fct.walk]; refine ⟨fun W hW hR => by (unfold Fct.opFct; go_simp; exact Below.refl _ _), fun v0 => ⟨fun W hW hR => by (unfold Fct.opFct; go_simp; exact Below.refl _ _), fun v1 => ⟨fun W hW hR => by (unfold Fct.opFct; go_simp; exact Below.refl _ _), fun v2 => ⟨fun W hW hR => by (unfold Fct.opFct; have hk := hR 2 (by kernel_rfl); simp at hk; subst hk; go_simp; exact Below.refl _ _), fun v3 => ⟨fun W hW hR => by (unfold Fct.opFct; have hk := hR 3 (by kernel_rfl); simp at hk; subst hk; have hcell := (Blk.below HP hW HP.lt).cell 2 _ rfl; go_simp; exact Below.refl _ _), fun v4 => ⟨fun W hW hR => by (unfold Fct.opFct; go_simp; exact Below.refl _ _), fun v5 => ⟨fun W hW hR => by (unfold Fct.opFct; have hk := hR 5 (by kernel_rfl); simp at hk; subst hk; go_simp; exact Below.refl _ _), fun v6 => ⟨fun W hW hR => by (unfold Fct.opFct; have hk := hR 6 (by kernel_rfl); simp at hk; subst hk; have hcell := (Blk.below HQ hW HQ.lt).cell 2 _ rfl; go_simp; exact Below.refl _ _), fun v7 => ⟨fun W hW hR => by (unfold Fct.opFct; have h1 := hR 1 (by kernel_rfl); have h4 := hR 4 (by kernel_rfl); have h7 := hR 7 (by kernel_rfl); simp at h1 h4 h7; subst h1; subst h4; subst h7; go_simp; exact (CF.out _ _ _).mono (by rintro e w1 ⟨rfl, rfl⟩; exact ⟨rfl, Below.refl _ _⟩)), fun v8 W hW hR hO => ?_⟩⟩⟩⟩⟩⟩⟩⟩⟩)
      (have k0 := hR 0 (by omega); have k1 := hR 1 (by omega); have k2 := hR 2 (by omega); have k3 := hR 3 (by omega); have k4 := hR 4 (by omega); have k5 := hR 5 (by omega); have k6 := hR 6 (by omega); have k7 := hR 7 (by omega); have k8 := hR 8 (by omega); simp at k0 k1 k2 k3 k4 k5 k6 k7 k8; subst k0; subst k1; subst k2; subst k3; subst k4; subst k5; subst k6; subst k7; subst k8; clear hR hO; simp only [Act.put, List.setIfInBounds_toArray, List.set_cons_zero, List.set_cons_succ]; replace HP := HP.below hW HP.lt; replace HQ := HQ.below hW HQ.lt; replace hrX := hrX.below hW hrX.lt; replace hbX := Bel.step' hbX hW; have pc := HP.cell 2 _ rfl; have pf := HP.frozen 2; go_wp2; clear pc pf; replace HP : Blk (W.setCell ⟨p, 2, none⟩ (.int .u64 (op c g))) p #[.int .u64 (op a d), .int .u64 (op b f), .int .u64 (op c g)] 81 := HP.set 2 _; replace HQ := HQ.setOther ⟨p, 2, none⟩ (.int .u64 (op c g)) hqp; replace hrX := hrX.setOther ⟨p, 2, none⟩ (.int .u64 (op c g)) hrp; replace hbX := hbX.setCell (p := ⟨p, 2, none⟩) hp2 (.int .u64 (op c g)); generalize W.setCell ⟨p, 2, none⟩ (.int .u64 (op c g)) = Y at HP HQ hrX hbX ⊢; clear hW W X; rename World => X)
      rw [rounds_succ]
      have p0 := HP.cell 0 _ rfl
      have p1 := HP.cell 1 _ rfl
      have p2 := HP.cell 2 _ rfl
      have r0 := hrX.cell 0 _ rfl
      have r1 := hrX.cell 1 _ rfl
      have r2 := hrX.cell 2 _ rfl
      have rf := hrX.frozen
      have hlr := hrX.lt
      go_wp2_with (go_at_call 88; refine (made_at _ _ _ _).mono ?_; rintro e w1 ⟨rfl, hb1⟩; obtain ⟨hc1, hf1⟩ := Bel.cells hb1)
      have HR : Blk (((w1.setCell ⟨w.heap.size + 1 + 1, 0, none⟩ (.int .u64 (op a d))).setCell ⟨w.heap.size + 1 + 1, 1, none⟩ (.int .u64 (op b f))).setCell ⟨w.heap.size + 1 + 1, 2, none⟩ (.int .u64 (op c g))) (w.heap.size + 1 + 1) #[.int .u64 (op a d), .int .u64 (op b f), .int .u64 (op c g)] 25 :=
        (((hrX.below hb1 hlr).set 0 _).set 1 _).set 2 _
      have hw1 : Below w.heap.size w w1 := Bel.step' hbX hb1
      have hbZ := ((hw1.setCell (p := ⟨w.heap.size + 1 + 1, 0, none⟩) (by show w.heap.size ≤ w.heap.size + 1 + 1; omega) (.int .u64 (op a d))).setCell (p := ⟨w.heap.size + 1 + 1, 1, none⟩) (by show w.heap.size ≤ w.heap.size + 1 + 1; omega) (.int .u64 (op b f))).setCell (p := ⟨w.heap.size + 1 + 1, 2, none⟩) (by show w.heap.size ≤ w.heap.size + 1 + 1; omega) (.int .u64 (op c g))
      generalize (((w1.setCell ⟨w.heap.size + 1 + 1, 0, none⟩ (.int .u64 (op a d))).setCell ⟨w.heap.size + 1 + 1, 1, none⟩ (.int .u64 (op b f))).setCell ⟨w.heap.size + 1 + 1, 2, none⟩ (.int .u64 (op c g))) = Z at HR hbZ ⊢
      have z0 := HR.cell 0 _ rfl
      have z1 := HR.cell 1 _ rfl
      have z2 := HR.cell 2 _ rfl
      refine bodyPost_ret (v := .agg #[.int .u64 (op a d), .int .u64 (op b f), .int .u64 (op c g)]) (by simp [results, Tryz.results67, go_sem, z0, z1, z2]) rfl ⟨rfl, hbZ⟩

/-- What is said of a result's block behind three stores. -/
theorem res_row {w W w1 : World} {r t : Nat} {x y z x0 x1 x2 : Value} (hr : Blk W r #[x0, x1, x2] t) (hb : Below W.heap.size W w1) (hw : Below w.heap.size w W) (hwr : w.heap.size ≤ r) :
    Blk (((w1.setCell ⟨r, 0, none⟩ x).setCell ⟨r, 1, none⟩ y).setCell ⟨r, 2, none⟩ z) r #[x, y, z] t ∧ Below w.heap.size w (((w1.setCell ⟨r, 0, none⟩ x).setCell ⟨r, 1, none⟩ y).setCell ⟨r, 2, none⟩ z) :=
  ⟨(((hr.later hb).set 0 x).set 1 y).set 2 z, (((Bel.step' hw hb).setCell (p := ⟨r, 0, none⟩) hwr x).setCell (p := ⟨r, 1, none⟩) hwr y).setCell (p := ⟨r, 2, none⟩) hwr z⟩

set_option maxHeartbeats 1000000 in
/-- stamp.Join. -/
theorem join_at (x y : Tm) (w : World) : Calls Tryz.prog 25 #[tmV x, tmV y] w fun e w' => e = .returned (tmV (joinV x y)) ∧ Below w.heap.size w w' := by
  have CE := Lib.hid (each_at x y 68 max join1_at (enters_of Tryz.func68 (by kernel_rfl) rfl))
  obtain ⟨a, b, c⟩ := x
  obtain ⟨d, f, g⟩ := y
  simp only [tmV, joinV] at CE ⊢
  go_enter Tryz.func25, Tryz.ntmps25
  go_wp2_with (go_at_call 67; refine (CE.out _).mono ?_; rintro e w1 ⟨rfl, hb1⟩; obtain ⟨hc1, hf1⟩ := Bel.cells hb1)
  have hr0 : Blk (((w.alloc (.cells #[.int .u64 a, .int .u64 b, .int .u64 c] 25)).alloc (.cells #[.int .u64 d, .int .u64 f, .int .u64 g] 25)).alloc (.cells #[.int .u64 0, .int .u64 0, .int .u64 0] 25)) (w.heap.size + 1 + 1) #[.int .u64 0, .int .u64 0, .int .u64 0] 25 := by
    have := Blk.new ((w.alloc (.cells #[.int .u64 a, .int .u64 b, .int .u64 c] 25)).alloc (.cells #[.int .u64 d, .int .u64 f, .int .u64 g] 25)) #[.int .u64 0, .int .u64 0, .int .u64 0] 25
    simpa using this
  obtain ⟨HR, hbZ⟩ := res_row (x := .int .u64 (max a d)) (y := .int .u64 (max b f)) (z := .int .u64 (max c g)) hr0 hb1 (show Below w.heap.size w _ by (repeat first | exact Below.refl _ _ | assumption | refine Bel.alloc' ?_ _ | refine Bel.drewN ?_ _ | refine Below.drew ?_ | refine Bel.step' ?_ (by assumption))) (show w.heap.size ≤ w.heap.size + 1 + 1 by omega)
  generalize (((w1.setCell ⟨w.heap.size + 1 + 1, 0, none⟩ (.int .u64 (max a d))).setCell ⟨w.heap.size + 1 + 1, 1, none⟩ (.int .u64 (max b f))).setCell ⟨w.heap.size + 1 + 1, 2, none⟩ (.int .u64 (max c g))) = Z at HR hbZ ⊢
  have z0 := HR.cell 0 _ rfl
  have z1 := HR.cell 1 _ rfl
  have z2 := HR.cell 2 _ rfl
  refine bodyPost_ret (v := .agg #[.int .u64 (max a d), .int .u64 (max b f), .int .u64 (max c g)]) (by simp [results, Tryz.results25, go_sem, z0, z1, z2]) rfl ⟨rfl, hbZ⟩

set_option maxHeartbeats 1000000 in
/-- stamp.Meet. -/
theorem meet_at (x y : Tm) (w : World) : Calls Tryz.prog 27 #[tmV x, tmV y] w fun e w' => e = .returned (tmV (meetV x y)) ∧ Below w.heap.size w w' := by
  have CE := Lib.hid (each_at x y 70 min meet1_at (enters_of Tryz.func70 (by kernel_rfl) rfl))
  obtain ⟨a, b, c⟩ := x
  obtain ⟨d, f, g⟩ := y
  simp only [tmV, meetV] at CE ⊢
  go_enter Tryz.func27, Tryz.ntmps27
  go_wp2_with (go_at_call 67; refine (CE.out _).mono ?_; rintro e w1 ⟨rfl, hb1⟩; obtain ⟨hc1, hf1⟩ := Bel.cells hb1)
  have hr0 : Blk (((w.alloc (.cells #[.int .u64 a, .int .u64 b, .int .u64 c] 25)).alloc (.cells #[.int .u64 d, .int .u64 f, .int .u64 g] 25)).alloc (.cells #[.int .u64 0, .int .u64 0, .int .u64 0] 25)) (w.heap.size + 1 + 1) #[.int .u64 0, .int .u64 0, .int .u64 0] 25 := by
    have := Blk.new ((w.alloc (.cells #[.int .u64 a, .int .u64 b, .int .u64 c] 25)).alloc (.cells #[.int .u64 d, .int .u64 f, .int .u64 g] 25)) #[.int .u64 0, .int .u64 0, .int .u64 0] 25
    simpa using this
  obtain ⟨HR, hbZ⟩ := res_row (x := .int .u64 (min a d)) (y := .int .u64 (min b f)) (z := .int .u64 (min c g)) hr0 hb1 (show Below w.heap.size w _ by (repeat first | exact Below.refl _ _ | assumption | refine Bel.alloc' ?_ _ | refine Bel.drewN ?_ _ | refine Below.drew ?_ | refine Bel.step' ?_ (by assumption))) (show w.heap.size ≤ w.heap.size + 1 + 1 by omega)
  generalize (((w1.setCell ⟨w.heap.size + 1 + 1, 0, none⟩ (.int .u64 (min a d))).setCell ⟨w.heap.size + 1 + 1, 1, none⟩ (.int .u64 (min b f))).setCell ⟨w.heap.size + 1 + 1, 2, none⟩ (.int .u64 (min c g))) = Z at HR hbZ ⊢
  have z0 := HR.cell 0 _ rfl
  have z1 := HR.cell 1 _ rfl
  have z2 := HR.cell 2 _ rfl
  refine bodyPost_ret (v := .agg #[.int .u64 (min a d), .int .u64 (min b f), .int .u64 (min c g)]) (by simp [results, Tryz.results27, go_sem, z0, z1, z2]) rfl ⟨rfl, hbZ⟩

end Go.Proofs.YtiiegpklpmogmaaGreatDoor
