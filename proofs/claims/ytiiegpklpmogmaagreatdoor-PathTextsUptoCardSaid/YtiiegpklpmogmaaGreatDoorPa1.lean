/- path.sum, Then, On, Ahead, Compare, Advances, Fits, walked. -/
import Derived.Test.YtiiegpklpmogmaaGreatDoorSt16
import Derived.Test.YtiiegpklpmogmaaGreatDoorPaPlain
import Derived.Shelf.Spec.BitsCarry
set_option linter.unusedVariables false
set_option linter.unusedSimpArgs false
namespace Go.Proofs.YtiiegpklpmogmaaGreatDoor
open Go.RowKit

theorem add64_run (x y : Int) (hx : 0 ≤ x ∧ x < 18446744073709551616) (hy : 0 ≤ y ∧ y < 18446744073709551616) (w : World) :
    (callFunc 93 #[.int .u64 x, .int .u64 y, .int .u64 0]).run Tryz.prog w = .ok (.value (.tuple #[.int .u64 (lo x y), .int .u64 (cr x y)])) w := by
  rw [run_callFunc_extern Tryz.func93 (by kernel_rfl) (by kernel_rfl) (by kernel_rfl) (e := add64Entry) (by kernel_rfl), run_add64 x y 0 hx.1 hy.1 (by omega) (by omega)]
  have e1 : (x + y + 0) % 18446744073709551616 = lo x y := by unfold lo M64; split <;> omega
  have e2 : (x + y + 0) / 18446744073709551616 = cr x y := by unfold cr M64; split <;> omega
  rw [e1, e2]
  rfl

/-- path.sum's answer, made of the carries. -/
theorem sum_of (x y : Tm) : (sumT x y = (if cr x.a y.a = 0 ∧ cr x.b y.b = 0 ∧ cr x.c y.c = 0 then (⟨lo x.a y.a, lo x.b y.b, lo x.c y.c⟩ : Tm) else tm0)) ∧ (fitsB x y = decide (cr x.a y.a = 0 ∧ cr x.b y.b = 0 ∧ cr x.c y.c = 0)) := by
  have h1 := cr_cases x.a y.a
  have h2 := cr_cases x.b y.b
  have h3 := cr_cases x.c y.c
  have hf : fitsB x y = decide (cr x.a y.a = 0 ∧ cr x.b y.b = 0 ∧ cr x.c y.c = 0) := by
    rw [Bool.eq_iff_iff, fitsB_iff, decide_eq_true_iff]
    omega
  refine ⟨?_, hf⟩
  unfold sumT
  rw [hf]
  by_cases h : cr x.a y.a = 0 ∧ cr x.b y.b = 0 ∧ cr x.c y.c = 0
  · rw [if_pos h, if_pos (decide_eq_true h)]
    unfold addV
    simp only [Tm.mk.injEq]
    omega
  · rw [if_neg h, if_neg (by simpa using h)]

set_option maxHeartbeats 2000000 in
theorem sum_at (x y : Tm) (hx : x.ok) (hy : y.ok) (w : World) :
    Calls Tryz.prog 71 #[tmV x, tmV y] w fun e w' => e = .returned (.tuple #[tmV (sumT x y), .bool (fitsB x y)]) ∧ Below w.heap.size w w' := by
  obtain ⟨h1, h2⟩ := sum_of x y
  rw [h1, h2]
  clear h1 h2
  have ca := add64_run x.a y.a hx.1 hy.1
  have cb := add64_run x.b y.b hx.2.1 hy.2.1
  have cc := add64_run x.c y.c hx.2.2 hy.2.2
  have k1 : cr x.a y.a = 0 ∨ cr x.a y.a = 1 := by unfold cr; split <;> simp
  have k2 : cr x.b y.b = 0 ∨ cr x.b y.b = 1 := by unfold cr; split <;> simp
  have k3 : cr x.c y.c = 0 ∨ cr x.c y.c = 1 := by unfold cr; split <;> simp
  clear hx hy
  obtain ⟨a, b, c⟩ := x
  obtain ⟨d, f, g⟩ := y
  simp only [tmV] at *
  generalize cr a d = c1 at *
  generalize cr b f = c2 at *
  generalize cr c g = c3 at *
  generalize lo a d = l1 at *
  generalize lo b f = l2 at *
  generalize lo c g = l3 at *
  have L := Lib.hid (And.intro ca (And.intro cb cc))
  clear ca cb cc
  rcases k1 with rfl | rfl <;> rcases k2 with rfl | rfl <;> rcases k3 with rfl | rfl
  · obtain ⟨ca, cb, cc⟩ := L.out
    go_enter Tryz.func71, Tryz.ntmps71
    go_wp2
    refine bodyPost_ret (v := .tuple #[.agg #[.int .u64 l1, .int .u64 l2, .int .u64 l3], .bool true]) (by simp [results, Tryz.results71, go_sem]) rfl ⟨by simp, by (repeat first | exact Below.refl _ _ | assumption | refine Bel.alloc' ?_ _ | refine Bel.drewN ?_ _ | refine Below.drew ?_ | refine Bel.step' ?_ (by assumption))⟩
  all_goals
    obtain ⟨ca, cb, cc⟩ := L.out
    go_enter Tryz.func71, Tryz.ntmps71
    go_wp2
    refine bodyPost_ret (v := .tuple #[.agg #[.int .u64 0, .int .u64 0, .int .u64 0], .bool false]) (by simp [results, Tryz.results71, go_sem]) rfl ⟨by simp [tm0], by (repeat first | exact Below.refl _ _ | assumption | refine Bel.alloc' ?_ _ | refine Bel.drewN ?_ _ | refine Below.drew ?_ | refine Bel.step' ?_ (by assumption))⟩

/-- Three stores into a result's block. -/
theorem res3 {w W w1 : World} {r t : Nat} {x y z x0 x1 x2 : Value} (hr : Blk W r #[x0, x1, x2] t) (hb : Below W.heap.size W w1) (hw : Below w.heap.size w W) (hwr : w.heap.size ≤ r) :
    Blk (((w1.setCell ⟨r, 0, none⟩ x).setCell ⟨r, 1, none⟩ y).setCell ⟨r, 2, none⟩ z) r #[x, y, z] t ∧ Below w.heap.size w (((w1.setCell ⟨r, 0, none⟩ x).setCell ⟨r, 1, none⟩ y).setCell ⟨r, 2, none⟩ z) :=
  ⟨(((hr.later hb).set 0 x).set 1 y).set 2 z, (((Bel.step' hw hb).setCell (p := ⟨r, 0, none⟩) hwr x).setCell (p := ⟨r, 1, none⟩) hwr y).setCell (p := ⟨r, 2, none⟩) hwr z⟩

set_option maxHeartbeats 2000000 in
/-- path.On. -/
theorem on_at (x y : Tm) (hx : x.ok) (hy : y.ok) (w : World) :
    Calls Tryz.prog 33 #[tmV x, tmV y] w fun e w' => e = .returned (.tuple #[tmV (sumT x y), .bool (fitsB x y)]) ∧ Below w.heap.size w w' := by
  have CS := Lib.hid (sum_at x y hx hy)
  clear hx hy
  obtain ⟨a, b, c⟩ := x
  obtain ⟨d, f, g⟩ := y
  generalize fitsB ⟨a, b, c⟩ ⟨d, f, g⟩ = v at CS ⊢
  generalize sumT ⟨a, b, c⟩ ⟨d, f, g⟩ = m at CS ⊢
  obtain ⟨m0, m1, m2⟩ := m
  simp only [tmV] at CS ⊢
  go_enter Tryz.func33, Tryz.ntmps33
  go_wp2_with (go_at_call 71; refine (CS.out _).mono ?_; rintro e w1 ⟨rfl, hb1⟩; obtain ⟨hc1, hf1⟩ := Bel.cells hb1)
  have hr0 : Blk (((w.alloc (.cells #[.int .u64 a, .int .u64 b, .int .u64 c] 40)).alloc (.cells #[.int .u64 d, .int .u64 f, .int .u64 g] 25)).alloc (.cells #[.int .u64 0, .int .u64 0, .int .u64 0] 25)) (w.heap.size + 1 + 1) #[.int .u64 0, .int .u64 0, .int .u64 0] 25 := Blk.new' (by simp)
  obtain ⟨HR, hbZ⟩ := res3 (x := .int .u64 m0) (y := .int .u64 m1) (z := .int .u64 m2) hr0 hb1 (show Below w.heap.size w _ by (repeat first | exact Below.refl _ _ | assumption | refine Bel.alloc' ?_ _ | refine Bel.drewN ?_ _ | refine Below.drew ?_ | refine Bel.step' ?_ (by assumption))) (show w.heap.size ≤ w.heap.size + 1 + 1 by omega)
  generalize (((w1.setCell ⟨w.heap.size + 1 + 1, 0, none⟩ (.int .u64 m0)).setCell ⟨w.heap.size + 1 + 1, 1, none⟩ (.int .u64 m1)).setCell ⟨w.heap.size + 1 + 1, 2, none⟩ (.int .u64 m2)) = Z at HR hbZ ⊢
  have z0 := HR.cell 0 _ rfl
  have z1 := HR.cell 1 _ rfl
  have z2 := HR.cell 2 _ rfl
  refine bodyPost_ret (v := .tuple #[.agg #[.int .u64 m0, .int .u64 m1, .int .u64 m2], .bool v]) (by simp [results, Tryz.results33, go_sem, z0, z1, z2]) rfl ⟨rfl, hbZ⟩

set_option maxHeartbeats 2000000 in
/-- path.Then. -/
theorem then_at (x y : Tm) (hx : x.ok) (hy : y.ok) (w : World) :
    Calls Tryz.prog 31 #[tmV x, tmV y] w fun e w' => e = .returned (.tuple #[tmV (sumT x y), .bool (fitsB x y)]) ∧ Below w.heap.size w w' := by
  have CS := Lib.hid (sum_at x y hx hy)
  clear hx hy
  obtain ⟨a, b, c⟩ := x
  obtain ⟨d, f, g⟩ := y
  generalize fitsB ⟨a, b, c⟩ ⟨d, f, g⟩ = v at CS ⊢
  generalize sumT ⟨a, b, c⟩ ⟨d, f, g⟩ = m at CS ⊢
  obtain ⟨m0, m1, m2⟩ := m
  simp only [tmV] at CS ⊢
  go_enter Tryz.func31, Tryz.ntmps31
  go_upto_region 2 with (go_at_call 71; refine (CS.out _).mono ?_; rintro e w1 ⟨rfl, hb1⟩; obtain ⟨hc1, hf1⟩ := Bel.cells hb1)
  have hr0 : Blk (((w.alloc (.cells #[.int .u64 a, .int .u64 b, .int .u64 c] 40)).alloc (.cells #[.int .u64 d, .int .u64 f, .int .u64 g] 40)).alloc (.cells #[.int .u64 0, .int .u64 0, .int .u64 0] 40)) (w.heap.size + 1 + 1) #[.int .u64 0, .int .u64 0, .int .u64 0] 40 := Blk.new' (by simp)
  have hb2 := Bel.alloc' hb1 (.cells #[.int .u64 m0, .int .u64 m1, .int .u64 m2] 25) |> fun h => (hb1.alloc hb1.size (.cells #[.int .u64 m0, .int .u64 m1, .int .u64 m2] 25))
  have hN := Blk.new w1 #[.int .u64 m0, .int .u64 m1, .int .u64 m2] 25
  have n0 := hN.cell 0 _ rfl
  have n1 := hN.cell 1 _ rfl
  have n2 := hN.cell 2 _ rfl
  have r0 := (hr0.later hb2).cell 0 _ rfl
  have r1 := (hr0.later hb2).cell 1 _ rfl
  have r2 := (hr0.later hb2).cell 2 _ rfl
  have rf := (hr0.later hb2).frozen
  clear hN hc1 hf1
  go_wp2
  obtain ⟨HR, hbZ⟩ := res3 (x := .int .u64 m0) (y := .int .u64 m1) (z := .int .u64 m2) hr0 hb2 (show Below w.heap.size w _ by (repeat first | exact Below.refl _ _ | assumption | refine Bel.alloc' ?_ _ | refine Bel.drewN ?_ _ | refine Below.drew ?_ | refine Bel.step' ?_ (by assumption))) (show w.heap.size ≤ w.heap.size + 1 + 1 by omega)
  generalize ((((w1.alloc (.cells #[.int .u64 m0, .int .u64 m1, .int .u64 m2] 25)).setCell ⟨w.heap.size + 1 + 1, 0, none⟩ (.int .u64 m0)).setCell ⟨w.heap.size + 1 + 1, 1, none⟩ (.int .u64 m1)).setCell ⟨w.heap.size + 1 + 1, 2, none⟩ (.int .u64 m2)) = Z at HR hbZ ⊢
  have z0 := HR.cell 0 _ rfl
  have z1 := HR.cell 1 _ rfl
  have z2 := HR.cell 2 _ rfl
  refine bodyPost_ret (v := .tuple #[.agg #[.int .u64 m0, .int .u64 m1, .int .u64 m2], .bool v]) (by simp [results, Tryz.results31, go_sem, z0, z1, z2]) rfl ⟨rfl, hbZ⟩

set_option maxHeartbeats 1000000 in
/-- path.Ahead. -/
theorem pahead_at (x y : Tm) (w : World) : Calls Tryz.prog 35 #[tmV x, tmV y] w fun e w' => e = .returned (.bool (aheadB x y)) ∧ Below w.heap.size w w' := by
  have CA := Lib.hid (fun W => ahead_at x y W)
  obtain ⟨a, b, c⟩ := x
  obtain ⟨d, f, g⟩ := y
  simp only [tmV] at CA ⊢
  go_enter Tryz.func35, Tryz.ntmps35
  go_wp2_with (go_at_call 21; refine (CA.out _).mono ?_; rintro e w1 ⟨rfl, hb1⟩)
  go_ret
  exact ⟨rfl, by (repeat first | exact Below.refl _ _ | assumption | refine Bel.alloc' ?_ _ | refine Bel.drewN ?_ _ | refine Below.drew ?_ | refine Bel.step' ?_ (by assumption))⟩

set_option maxHeartbeats 1000000 in
/-- path.Compare. -/
theorem pcompare_d (x y : Tm) (w : World) : Calls Tryz.prog 37 #[tmV x, tmV y] w fun e w' => e = .returned (.int .i64 (cmpV x y)) ∧ Bd w w' := by
  have CA := Lib.hid (fun W => compare_d x y W)
  obtain ⟨a, b, c⟩ := x
  obtain ⟨d, f, g⟩ := y
  simp only [tmV] at CA ⊢
  go_enter Tryz.func37, Tryz.ntmps37
  go_wp2_with (go_at_call 23; refine (CA.out _).mono ?_; rintro e w1 ⟨rfl, hb1⟩)
  go_ret
  refine ⟨rfl, ?_, ?_⟩
  · have hb1 := hb1.1
    (repeat first | exact Below.refl _ _ | assumption | refine Bel.alloc' ?_ _ | refine Bel.drewN ?_ _ | refine Below.drew ?_ | refine Bel.step' ?_ (by assumption))
  · have := hb1.2
    simpa using this
theorem pcompare_at (x y : Tm) (w : World) : Calls Tryz.prog 37 #[tmV x, tmV y] w fun e w' => e = .returned (.int .i64 (cmpV x y)) ∧ Below w.heap.size w w' :=
  (pcompare_d x y w).mono fun _ _ ⟨he, hb⟩ => ⟨he, hb.1⟩

set_option maxHeartbeats 1000000 in
/-- path.Fits. -/
theorem pfits_at (a b c n : Int) (w : World) : Calls Tryz.prog 41 #[.agg #[.int .u64 a, .int .u64 b, .int .u64 c], .int .i64 n] w fun e w' => e = .returned (.int .i64 (fitsV a b c n)) ∧ Below w.heap.size w w' := by
  have CF := Lib.hid (fun W => fits_any a b c n W)
  go_enter Tryz.func41, Tryz.ntmps41
  go_wp2_with (go_at_call 29; refine (CF.out _).mono ?_; rintro e w1 ⟨rfl, hb1⟩)
  go_ret
  exact ⟨rfl, by (repeat first | exact Below.refl _ _ | assumption | refine Bel.alloc' ?_ _ | refine Bel.drewN ?_ _ | refine Below.drew ?_ | refine Bel.step' ?_ (by assumption))⟩

theorem pt_guard : Tryz.prog.eqGuardType Tryz.prog.depth 40 = false := by kernel_rfl
theorem pt_stood : Tryz.prog.stoodInHeld 40 = false := by kernel_rfl
theorem pt_neq (x y : Tm) (W : World) : (binOp .neq 40 (tmV x) (tmV y)).run Tryz.prog W = .ok (.bool (!decide (x = y))) W := by
  have h4 := pt_stood
  obtain ⟨xa, xb, xc⟩ := x
  obtain ⟨ya, yb, yc⟩ := y
  simp only [tmV]
  by_cases e1 : xa = ya
  · by_cases e2 : xb = yb
    · by_cases e3 : xc = yc
      · simp [go_sem, Tryz.underlying40, Tryz.underlying23, *]
      · simp [go_sem, Tryz.underlying40, Tryz.underlying23, *]
    · simp [go_sem, Tryz.underlying40, Tryz.underlying23, *]
  · simp [go_sem, Tryz.underlying40, Tryz.underlying23, *]
theorem pt_eql (x y : Tm) (W : World) : (binOp .eql 40 (tmV x) (tmV y)).run Tryz.prog W = .ok (.bool (decide (x = y))) W := by
  have h4 := pt_stood
  obtain ⟨xa, xb, xc⟩ := x
  obtain ⟨ya, yb, yc⟩ := y
  simp only [tmV]
  by_cases e1 : xa = ya
  · by_cases e2 : xb = yb
    · by_cases e3 : xc = yc
      · simp [go_sem, Tryz.underlying40, Tryz.underlying23, *]
      · simp [go_sem, Tryz.underlying40, Tryz.underlying23, *]
    · simp [go_sem, Tryz.underlying40, Tryz.underlying23, *]
  · simp [go_sem, Tryz.underlying40, Tryz.underlying23, *]

/-- Not the empty path. -/
def advB (x : Tm) : Bool := !decide (x = tm0)
set_option maxHeartbeats 1000000 in
/-- path.Advances. -/
theorem advances_at (x : Tm) (w : World) : Calls Tryz.prog 39 #[tmV x] w fun e w' => e = .returned (.bool (advB x)) ∧ Below w.heap.size w w' := by
  have he : ∀ W, (binOp .neq 40 (tmV x) (tmV tm0)).run Tryz.prog W = .ok (.bool (advB x)) W := fun W => pt_neq x tm0 W
  have hg := pt_guard
  generalize advB x = v at he ⊢
  obtain ⟨a, b, c⟩ := x
  simp only [tmV, tm0] at he ⊢
  go_enter Tryz.func39, Tryz.ntmps39
  go_wp2
  go_ret
  exact ⟨rfl, by (repeat first | exact Below.refl _ _ | assumption | refine Bel.alloc' ?_ _ | refine Bel.drewN ?_ _ | refine Below.drew ?_ | refine Bel.step' ?_ (by assumption))⟩

set_option maxHeartbeats 1000000 in
theorem later_at (x y : Tm) (w : World) : Calls Tryz.prog 52 #[tmV x, tmV y] w fun e w' => e = .returned (.bool (aheadB x y)) ∧ Below w.heap.size w w' := by
  obtain ⟨a, b, c⟩ := x
  obtain ⟨d, f, g⟩ := y
  by_cases h1 : a ≤ d
  · have t1 : decide (a ≤ d) = true := decide_eq_true h1
    by_cases h2 : b ≤ f
    · have t2 : decide (b ≤ f) = true := decide_eq_true h2
      by_cases h3 : c ≤ g
      · have t3 : decide (c ≤ g) = true := decide_eq_true h3
        have e : aheadB ⟨a, b, c⟩ ⟨d, f, g⟩ = true := by simp [aheadB, h1, h2, h3]
        rw [e]; clear e h1 h2 h3
        simp only [tmV]
        (go_enter Tryz.func52, Tryz.ntmps52; go_wp2; go_ret; exact ⟨rfl, by (repeat first | exact Below.refl _ _ | assumption | refine Bel.alloc' ?_ _ | refine Bel.drewN ?_ _ | refine Below.drew ?_ | refine Bel.step' ?_ (by assumption))⟩)
      · have t3 : decide (c ≤ g) = false := decide_eq_false h3
        have e : aheadB ⟨a, b, c⟩ ⟨d, f, g⟩ = false := by simp [aheadB, h1, h2, h3]
        rw [e]; clear e h1 h2 h3
        simp only [tmV]
        (go_enter Tryz.func52, Tryz.ntmps52; go_wp2; go_ret; exact ⟨rfl, by (repeat first | exact Below.refl _ _ | assumption | refine Bel.alloc' ?_ _ | refine Bel.drewN ?_ _ | refine Below.drew ?_ | refine Bel.step' ?_ (by assumption))⟩)
    · have t2 : decide (b ≤ f) = false := decide_eq_false h2
      have e : aheadB ⟨a, b, c⟩ ⟨d, f, g⟩ = false := by simp [aheadB, h1, h2]
      rw [e]; clear e h1 h2
      simp only [tmV]
      (go_enter Tryz.func52, Tryz.ntmps52; go_wp2; go_ret; exact ⟨rfl, by (repeat first | exact Below.refl _ _ | assumption | refine Bel.alloc' ?_ _ | refine Bel.drewN ?_ _ | refine Below.drew ?_ | refine Bel.step' ?_ (by assumption))⟩)
  · have t1 : decide (a ≤ d) = false := decide_eq_false h1
    have e : aheadB ⟨a, b, c⟩ ⟨d, f, g⟩ = false := by simp [aheadB, h1]
    rw [e]; clear e h1
    simp only [tmV]
    (go_enter Tryz.func52, Tryz.ntmps52; go_wp2; go_ret; exact ⟨rfl, by (repeat first | exact Below.refl _ _ | assumption | refine Bel.alloc' ?_ _ | refine Bel.drewN ?_ _ | refine Below.drew ?_ | refine Bel.step' ?_ (by assumption))⟩)
end Go.Proofs.YtiiegpklpmogmaaGreatDoor
