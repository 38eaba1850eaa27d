/- stamp.Compare, walked. -/
import Derived.Test.YtiiegpklpmogmaaGreatDoorSt3
set_option linter.unusedVariables false
set_option linter.unusedSimpArgs false
namespace Go.Proofs.YtiiegpklpmogmaaGreatDoor
open Go.RowKit

theorem two_rows {W : World} {p q t : Nat} {a b c d f g x0 x1 x2 y0 y1 y2 : Value} (hp : Blk W p #[x0, x1, x2] t) (hq : Blk W q #[y0, y1, y2] t) (hpq : p ≠ q) :
    Blk ((((((W.setCell ⟨p, 0, none⟩ a).setCell ⟨p, 1, none⟩ b).setCell ⟨p, 2, none⟩ c).setCell ⟨q, 0, none⟩ d).setCell ⟨q, 1, none⟩ f).setCell ⟨q, 2, none⟩ g) p #[a, b, c] t ∧
    Blk ((((((W.setCell ⟨p, 0, none⟩ a).setCell ⟨p, 1, none⟩ b).setCell ⟨p, 2, none⟩ c).setCell ⟨q, 0, none⟩ d).setCell ⟨q, 1, none⟩ f).setCell ⟨q, 2, none⟩ g) q #[d, f, g] t :=
  ⟨(((((hp.set 0 a).set 1 b).set 2 c).setOther ⟨q, 0, none⟩ d hpq).setOther ⟨q, 1, none⟩ f hpq).setOther ⟨q, 2, none⟩ g hpq,
   (((((hq.setOther ⟨p, 0, none⟩ a hpq.symm).setOther ⟨p, 1, none⟩ b hpq.symm).setOther ⟨p, 2, none⟩ c hpq.symm).set 0 d).set 1 f).set 2 g⟩

set_option maxHeartbeats 400000 in
theorem numbers_d (a b c : Int) (w : World) :
    Calls Tryz.prog 65 #[.agg #[.int .u64 a, .int .u64 b, .int .u64 c]] w fun e w' => e = .returned (.agg #[.int .u64 a, .int .u64 b, .int .u64 c]) ∧ Bd w w' := by
  go_enter Tryz.func65, Tryz.ntmps65
  go_wp2
  refine bodyPost_ret (v := .agg #[.int .u64 a, .int .u64 b, .int .u64 c]) (by simp [results, Tryz.results65, go_sem]) rfl ⟨rfl, ?_, Nat.le_refl _⟩
  (repeat first | exact Below.refl _ _ | assumption | refine Bel.alloc' ?_ _ | refine Bel.drewN ?_ _ | refine Below.drew ?_ | refine Bel.step' ?_ (by assumption))

set_option maxHeartbeats 2000000 in
set_option maxRecDepth 8000 in
theorem compare_d (x y : Tm) (w : World) : Calls Tryz.prog 23 #[tmV x, tmV y] w fun e w' => e = .returned (.int .i64 (cmpV x y)) ∧ Bd w w' := by
  have CS := Lib.hid (scmp_at x y)
  obtain ⟨a, b, c⟩ := x
  obtain ⟨d, f, g⟩ := y
  simp only [tmV, tmCells] at CS ⊢
  go_enter Tryz.func23, Tryz.ntmps23
  go_wp2
  refine wp_region_facts_d 6 (fun j v W => match j with
    | 0 => v = .agg #[.int .u64 a, .int .u64 b, .int .u64 c]
    | 1 => v = .agg #[.int .u64 a, .int .u64 b, .int .u64 c]
    | 2 => v = .agg #[.int .u64 d, .int .u64 f, .int .u64 g]
    | 3 => v = .agg #[.int .u64 d, .int .u64 f, .int .u64 g]
    | _ => ∃ p, v = .pointer (some ⟨p, 0, none⟩) ∧ w.heap.size + 1 < p ∧ Blk W p #[.int .u64 0, .int .u64 0, .int .u64 0] 81)
    (fun j v p => match j with | 4 => v = .pointer (some ⟨p, 0, none⟩) | 5 => v = .pointer (some ⟨p, 0, none⟩) | _ => False) (by kernel_rfl) (by kernel_rfl) ?st ?wk
  case st =>
    intro j v W W' h hb
    match j with
    | 0 => exact h
    | 1 => exact h
    | 2 => exact h
    | 3 => exact h
    | (j + 4) => obtain ⟨p, e, h1, h2⟩ := h; exact ⟨p, e, h1, h2.later hb⟩
  case wk =>
    simp only [List.take_succ_cons, List.take_zero, List.drop_succ_cons, List.drop_zero, Fct.walk]
    refine ⟨fun W hW hR => ?_, fun v0 => ⟨fun W hW hR => ?_, fun v1 => ⟨fun W hW hR => ?_, fun v2 => ⟨fun W hW hR => ?_, fun v3 => ⟨fun W hW hR => ?_, fun v4 => ⟨fun W hW hR => ?_, fun v5 W hW hR hO => ?_⟩⟩⟩⟩⟩⟩
    all_goals try unfold Fct.opFct
    case refine_1 => obtain ⟨hc, hf⟩ := Bel.cells hW.1; go_simp; exact Bd.refl _
    case refine_2 => have h0 := hR 0 (by kernel_rfl); simp at h0; subst h0; go_simp; exact (numbers_d _ _ _ _).mono (by rintro e w1 ⟨rfl, hb⟩; exact ⟨rfl, hb⟩)
    case refine_3 => obtain ⟨hc, hf⟩ := Bel.cells hW.1; go_simp; exact Bd.refl _
    case refine_4 => have h0 := hR 2 (by kernel_rfl); simp at h0; subst h0; go_simp; exact (numbers_d _ _ _ _).mono (by rintro e w1 ⟨rfl, hb⟩; exact ⟨rfl, hb⟩)
    case refine_5 => have hsz := hW.1.size; simp at hsz; go_simp; exact ⟨⟨Bel.alloc' (Below.refl _ _) _, Nat.le_refl _⟩, by omega, Blk.new _ _ _⟩
    case refine_6 => have hsz := hW.1.size; simp at hsz; go_simp; exact ⟨⟨Bel.alloc' (Below.refl _ _) _, Nat.le_refl _⟩, by omega, Blk.new _ _ _⟩
    case refine_7 =>
      have h0 := hR 0 (by omega); have h2 := hR 2 (by omega); have h1 := hR 1 (by omega); have h3 := hR 3 (by omega); have h4 := hR 4 (by omega); have h5 := hR 5 (by omega)
      have h45 := fun b => hO 4 5 b (by omega) (by omega) (by omega)
      simp at h0 h1 h2 h3 h4 h5 h45
      subst h0; subst h1; subst h2; subst h3
      obtain ⟨p, rfl, hp1, hp⟩ := h4
      obtain ⟨q, rfl, hq1, hq⟩ := h5
      have hqp : q ≠ p := by simpa using h45
      have hpq : p ≠ q := fun e => hqp e.symm
      clear hR hO h45
      simp only [Act.put, List.setIfInBounds_toArray, List.set_cons_zero, List.set_cons_succ]
      have p0 := hp.cell 0 _ rfl
      have p1 := hp.cell 1 _ rfl
      have p2 := hp.cell 2 _ rfl
      have q0 := hq.cell 0 _ rfl
      have q1 := hq.cell 1 _ rfl
      have q2 := hq.cell 2 _ rfl
      have pf := hp.frozen
      have qf := hq.frozen
      go_wp2
      have HB := two_rows (a := .int .u64 a) (b := .int .u64 b) (c := .int .u64 c) (d := .int .u64 d) (f := .int .u64 f) (g := .int .u64 g) hp hq hpq
      go_quiet ((go_at_call 66; exact Calls.quiet_of_same (CS.out p q _ (HB.1.drewN _) (HB.2.drewN _))))
      go_wp2
      go_ret
      have hW2 : Below w.heap.size w W := Bel.step' (by (repeat first | exact Below.refl _ _ | assumption | refine Bel.alloc' ?_ _ | refine Bel.drewN ?_ _ | refine Below.drew ?_ | refine Bel.step' ?_ (by assumption))) hW.1
      have hp2 : w.heap.size ≤ p := by omega
      have hq2 : w.heap.size ≤ q := by omega
      refine ⟨rfl, Bel.drewN ?_ _, ?_⟩
      · exact (((((hW2.setCell (p := ⟨p, 0, none⟩) hp2 _).setCell (p := ⟨p, 1, none⟩) hp2 _).setCell (p := ⟨p, 2, none⟩) hp2 _).setCell (p := ⟨q, 0, none⟩) hq2 _).setCell (p := ⟨q, 1, none⟩) hq2 _).setCell (p := ⟨q, 2, none⟩) hq2 _
      · have := hW.2
        simp [World.drewN, World.setCell] at this ⊢
        omega

/-- stamp.Compare. -/
theorem compare_at (x y : Tm) (w : World) : Calls Tryz.prog 23 #[tmV x, tmV y] w fun e w' => e = .returned (.int .i64 (cmpV x y)) ∧ Below w.heap.size w w' :=
  (compare_d x y w).mono fun _ _ ⟨he, hb⟩ => ⟨he, hb.1⟩
end Go.Proofs.YtiiegpklpmogmaaGreatDoor
