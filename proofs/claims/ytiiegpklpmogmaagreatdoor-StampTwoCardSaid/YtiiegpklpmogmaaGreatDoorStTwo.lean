/- StampTwo, walked. -/
import Derived.Test.YtiiegpklpmogmaaGreatDoorRefD
import Derived.Test.YtiiegpklpmogmaaGreatDoorStPlain6
import Derived.Deep.DeepCutAuto
set_option linter.unusedVariables false
set_option linter.unusedSimpArgs false
namespace Go.Proofs.YtiiegpklpmogmaaGreatDoor
open Go.RowKit Go.Sort


set_option maxHeartbeats 8000000 in
set_option maxRecDepth 60000 in
theorem two_walk (a0 a1 a2 b0 b1 b2 j0 j1 j2 m0 m1 m2 n : Int) (v : Bool) (k f : Int) (w : World) (hg : Glob w)
    (CA : Hid (∀ W, Calls Tryz.prog 21 #[.agg #[.int .u64 a0, .int .u64 a1, .int .u64 a2], .agg #[.int .u64 b0, .int .u64 b1, .int .u64 b2]] W fun e w' => e = .returned (.bool v) ∧ Below W.heap.size W w'))
    (RA : Hid (∀ W, Calls Tryz.prog 22 #[.agg #[.int .u64 a0, .int .u64 a1, .int .u64 a2], .agg #[.int .u64 b0, .int .u64 b1, .int .u64 b2]] W fun e w' => e = .returned (.bool v) ∧ Below W.heap.size W w'))
    (CK : Hid (∀ W, Calls Tryz.prog 23 #[.agg #[.int .u64 a0, .int .u64 a1, .int .u64 a2], .agg #[.int .u64 b0, .int .u64 b1, .int .u64 b2]] W fun e w' => e = .returned (.int .i64 k) ∧ Below W.heap.size W w'))
    (RK : Hid (∀ W, Calls Tryz.prog 24 #[.agg #[.int .u64 a0, .int .u64 a1, .int .u64 a2], .agg #[.int .u64 b0, .int .u64 b1, .int .u64 b2]] W fun e w' => e = .returned (.int .i64 k) ∧ Below W.heap.size W w'))
    (CJ : Hid (∀ W, Calls Tryz.prog 25 #[.agg #[.int .u64 a0, .int .u64 a1, .int .u64 a2], .agg #[.int .u64 b0, .int .u64 b1, .int .u64 b2]] W fun e w' => e = .returned (.agg #[.int .u64 j0, .int .u64 j1, .int .u64 j2]) ∧ Below W.heap.size W w'))
    (RJ : Hid (∀ W, Calls Tryz.prog 26 #[.agg #[.int .u64 a0, .int .u64 a1, .int .u64 a2], .agg #[.int .u64 b0, .int .u64 b1, .int .u64 b2]] W fun e w' => e = .returned (.agg #[.int .u64 j0, .int .u64 j1, .int .u64 j2]) ∧ Below W.heap.size W w'))
    (CM : Hid (∀ W, Calls Tryz.prog 27 #[.agg #[.int .u64 a0, .int .u64 a1, .int .u64 a2], .agg #[.int .u64 b0, .int .u64 b1, .int .u64 b2]] W fun e w' => e = .returned (.agg #[.int .u64 m0, .int .u64 m1, .int .u64 m2]) ∧ Below W.heap.size W w'))
    (RM : Hid (∀ W, Calls Tryz.prog 28 #[.agg #[.int .u64 a0, .int .u64 a1, .int .u64 a2], .agg #[.int .u64 b0, .int .u64 b1, .int .u64 b2]] W fun e w' => e = .returned (.agg #[.int .u64 m0, .int .u64 m1, .int .u64 m2]) ∧ Below W.heap.size W w'))
    (CF : Hid (∀ W, Calls Tryz.prog 29 #[.agg #[.int .u64 a0, .int .u64 a1, .int .u64 a2], .int .i64 n] W fun e w' => e = .returned (.int .i64 f) ∧ Below W.heap.size W w'))
    (RF : Hid (∀ W, Calls Tryz.prog 30 #[.agg #[.int .u64 a0, .int .u64 a1, .int .u64 a2], .int .i64 n] W fun e w' => e = .returned (.int .i64 f) ∧ Below W.heap.size W w'))
    (nj : ∀ W, (binOp .neq 25 (.agg #[.int .u64 j0, .int .u64 j1, .int .u64 j2]) (.agg #[.int .u64 j0, .int .u64 j1, .int .u64 j2])).run Tryz.prog W = .ok (.bool false) W)
    (nm : ∀ W, (binOp .neq 25 (.agg #[.int .u64 m0, .int .u64 m1, .int .u64 m2]) (.agg #[.int .u64 m0, .int .u64 m1, .int .u64 m2])).run Tryz.prog W = .ok (.bool false) W) :
    Calls Tryz.prog 4 #[.agg #[.int .u64 a0, .int .u64 a1, .int .u64 a2], .agg #[.int .u64 b0, .int .u64 b1, .int .u64 b2], .int .i64 n] w fun e w' => e = .returned (.bool true) ∧ Below w.heap.size w w' := by
  have HG := Lib.hid hg
  have hguard := tm_guard
  have e1 : (v != v) = false := by simp
  have e2 : (k != k) = false := by simp
  have e3 : (f == f) = true := by simp
  clear hg
  go_enter Tryz.func4, Tryz.ntmps4
  go_upto_region 0 with fail
  go_cut [3, 4, 6] (fun s3 s4 s6 wc => ∃ p q : Nat, s3 = .pointer (some ⟨p, 0, none⟩) ∧ s4 = .pointer (some ⟨q, 0, none⟩) ∧ s6 = .bool false ∧ Blk wc p #[.int .u64 a0, .int .u64 a1, .int .u64 a2] 25 ∧ Blk wc q #[.int .u64 b0, .int .u64 b1, .int .u64 b2] 25 ∧ Below w.heap.size w wc)
  case first =>
    go_wp2_with fail
    go_meet
    exact ⟨_, _, rfl, rfl, rfl, (Blk.new _ _ _).alloc _, Blk.new' (by simp), by (repeat first | exact Below.refl _ _ | assumption | refine Bel.alloc' ?_ _ | refine Bel.drewN ?_ _ | refine Below.drew ?_ | refine Bel.step' ?_ (by assumption))⟩
  case rest =>
    obtain ⟨p, q, rfl, rfl, rfl, hp, hq, hbw⟩ := hcut
    (have hpx := Blk.later (k := p) (by assumption) (Below.refl _ wc); have hqx := Blk.later (k := q) (by assumption) (Below.refl _ wc); have p0 := hpx.cell 0 _ rfl; have p1 := hpx.cell 1 _ rfl; have p2 := hpx.cell 2 _ rfl; have q0 := hqx.cell 0 _ rfl; have q1 := hqx.cell 1 _ rfl; have q2 := hqx.cell 2 _ rfl)
    go_upto_region 1 with fail
    go_cut [22] (fun s22 wc => s22 = .bool false ∧ Blk wc p #[.int .u64 a0, .int .u64 a1, .int .u64 a2] 25 ∧ Blk wc q #[.int .u64 b0, .int .u64 b1, .int .u64 b2] 25 ∧ Below w.heap.size w wc)
    case first => as_aux_lemma =>
      have Q1 := Lib.hid (quiet_call (X := wc) (fun W _ => CA.out W))
      have Q2 := Lib.hid (quiet_call (X := wc) (fun W _ => RA.out W))
      have Q3 := Lib.hid (quiet_call (X := wc) (fun W _ => CK.out W))
      have Q4 := Lib.hid (quiet_call (X := wc) (fun W _ => RK.out W))
      (replace p0 := cell_regrown p0; replace p1 := cell_regrown p1; replace p2 := cell_regrown p2; replace q0 := cell_regrown q0; replace q1 := cell_regrown q1; replace q2 := cell_regrown q2)
      refine wp_region_quiet_below (by kernel_rfl) (by kernel_rfl) ?_; (repeat (go_big_quiet_step (first | exact Q1.out _ _ | exact Q2.out _ _ | exact Q3.out _ _ | exact Q4.out _ _))); refine wpQuiet_nil ?_; intro _ hw'; obtain ⟨⟨dq, osq⟩, hw''⟩ := hw'; subst hw''
      have hb5 := below_regrown wc dq osq
      clear p0 p1 p2 q0 q1 q2 Q1 Q2 Q3 Q4
      generalize grow (redrawn wc dq) osq = w5 at *
      go_wp2_with fail
      go_meet
      exact ⟨rfl, hp.later hb5, hq.later hb5, Bel.step' hbw hb5⟩
    case rest => as_aux_lemma =>
      obtain ⟨rfl, hp, hq, hbw⟩ := hcut
      (have hpx := Blk.later (k := p) (by assumption) (Below.refl _ wc); have hqx := Blk.later (k := q) (by assumption) (Below.refl _ wc); have p0 := hpx.cell 0 _ rfl; have p1 := hpx.cell 1 _ rfl; have p2 := hpx.cell 2 _ rfl; have q0 := hqx.cell 0 _ rfl; have q1 := hqx.cell 1 _ rfl; have q2 := hqx.cell 2 _ rfl)
      go_upto_region 3 with fail
      go_cut [38] (fun s38 wc => s38 = .bool false ∧ Blk wc p #[.int .u64 a0, .int .u64 a1, .int .u64 a2] 25 ∧ Blk wc q #[.int .u64 b0, .int .u64 b1, .int .u64 b2] 25 ∧ Below w.heap.size w wc)
      case first => as_aux_lemma =>
        have Q1 := Lib.hid (quiet_call (X := wc) (fun W _ => CJ.out W))
        have Q2 := Lib.hid (quiet_call (X := wc) (fun W _ => RJ.out W))
        have Q3 := Lib.hid (quiet_call (X := wc) (fun W _ => CM.out W))
        have Q4 := Lib.hid (quiet_call (X := wc) (fun W _ => RM.out W))
        (replace p0 := cell_regrown p0; replace p1 := cell_regrown p1; replace p2 := cell_regrown p2; replace q0 := cell_regrown q0; replace q1 := cell_regrown q1; replace q2 := cell_regrown q2)
        refine wp_region_quiet_below (by kernel_rfl) (by kernel_rfl) ?_; (repeat (go_big_quiet_step (first | exact Q1.out _ _ | exact Q2.out _ _ | exact Q3.out _ _ | exact Q4.out _ _))); refine wpQuiet_nil ?_; intro _ hw'; obtain ⟨⟨dq, osq⟩, hw''⟩ := hw'; subst hw''
        have hb5 := below_regrown wc dq osq
        clear p0 p1 p2 q0 q1 q2 Q1 Q2 Q3 Q4
        generalize grow (redrawn wc dq) osq = w5 at *
        go_wp2_with fail
        go_meet
        exact ⟨rfl, hp.later hb5, hq.later hb5, Bel.step' hbw hb5⟩
      case rest => as_aux_lemma =>
        obtain ⟨rfl, hp, hq, hbw⟩ := hcut
        (have hpx := Blk.later (k := p) (by assumption) (Below.refl _ wc); have hqx := Blk.later (k := q) (by assumption) (Below.refl _ wc); have p0 := hpx.cell 0 _ rfl; have p1 := hpx.cell 1 _ rfl; have p2 := hpx.cell 2 _ rfl; have q0 := hqx.cell 0 _ rfl; have q1 := hqx.cell 1 _ rfl; have q2 := hqx.cell 2 _ rfl)
        go_upto_region 5 with fail
        have Q1 := Lib.hid (quiet_call (X := wc) (fun W _ => CF.out W))
        have Q2 := Lib.hid (quiet_call (X := wc) (fun W _ => RF.out W))
        have Q3 := Lib.hid (quiet_call (X := wc) (fun W hW => taken_at W (HG.out.below (Bel.step' hbw hW))))
        (replace p0 := cell_regrown p0; replace p1 := cell_regrown p1; replace p2 := cell_regrown p2; replace q0 := cell_regrown q0; replace q1 := cell_regrown q1; replace q2 := cell_regrown q2)
        refine wp_region_quiet_below (by kernel_rfl) (by kernel_rfl) ?_; (repeat (go_big_quiet_step (first | exact Q1.out _ _ | exact Q2.out _ _ | exact Q3.out _ _))); refine wpQuiet_nil ?_; intro _ hw'; obtain ⟨⟨dq, osq⟩, hw''⟩ := hw'; subst hw''
        have hb5 := below_regrown wc dq osq
        clear p0 p1 p2 q0 q1 q2 Q1 Q2 Q3
        generalize grow (redrawn wc dq) osq = w5 at *
        go_wp2
        go_ret
        exact ⟨rfl, Bel.step' hbw hb5⟩

theorem two_at (a b : Tm) (n : Int) (w : World) (hg : Glob w) (_ : a.ok) (_ : b.ok) :
    Calls Tryz.prog 4 #[tmV a, tmV b, .int .i64 n] w fun e w' => e = .returned (.bool true) ∧ Below w.heap.size w w' :=
  two_walk a.a a.b a.c b.a b.b b.c (joinV a b).a (joinV a b).b (joinV a b).c (meetV a b).a (meetV a b).b (meetV a b).c n (aheadB a b) (cmpV a b) (fitsV a.a a.b a.c n) w hg
    (Lib.hid fun W => ahead_at a b W) (Lib.hid fun W => refahead_at a b W) (Lib.hid fun W => compare_at a b W) (Lib.hid fun W => refcompare_at a b W)
    (Lib.hid fun W => join_at a b W) (Lib.hid fun W => refjoin_at a b W) (Lib.hid fun W => meet_at a b W) (Lib.hid fun W => refmeet_at a b W)
    (Lib.hid fun W => fits_any a.a a.b a.c n W) (Lib.hid fun W => reffits_at a.a a.b a.c n W)
    (fun W => by have h := tm_neq (joinV a b) (joinV a b) W; rw [show decide (joinV a b = joinV a b) = true from decide_eq_true rfl] at h; exact h)
    (fun W => by have h := tm_neq (meetV a b) (meetV a b) W; rw [show decide (meetV a b = meetV a b) = true from decide_eq_true rfl] at h; exact h)
end Go.Proofs.YtiiegpklpmogmaaGreatDoor
