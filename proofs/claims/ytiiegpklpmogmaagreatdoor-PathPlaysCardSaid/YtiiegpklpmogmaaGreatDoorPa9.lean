/- PathPlays, walked. -/
import Derived.Test.YtiiegpklpmogmaaGreatDoorR2E
import Derived.Test.YtiiegpklpmogmaaGreatDoorPar3
import Derived.Deep.DeepCutAuto
set_option linter.unusedVariables false
set_option linter.unusedSimpArgs false
namespace Go.Proofs.YtiiegpklpmogmaaGreatDoor
open Go.RowKit Go.Sort

set_option maxHeartbeats 4000000 in
set_option maxRecDepth 60000 in
theorem plays_walk (p0 p1 p2 q0 q1 q2 r0 r1 r2 t0 t1 t2 u0 u1 u2 n a0 a1 a2 x0 x1 x2 c f : Int) (ok one A1 dx : Bool) (w : World) (hg : Glob w)
    (HA : Hid (Says 31 #[.agg #[.int .u64 p0, .int .u64 p1, .int .u64 p2], .agg #[.int .u64 q0, .int .u64 q1, .int .u64 q2]] (.tuple #[.agg #[.int .u64 a0, .int .u64 a1, .int .u64 a2], .bool ok])))
    (HA' : Hid (Says 32 #[.agg #[.int .u64 p0, .int .u64 p1, .int .u64 p2], .agg #[.int .u64 q0, .int .u64 q1, .int .u64 q2]] (.tuple #[.agg #[.int .u64 a0, .int .u64 a1, .int .u64 a2], .bool ok])))
    (HX : Hid (Says 33 #[.agg #[.int .u64 p0, .int .u64 p1, .int .u64 p2], .agg #[.int .u64 t0, .int .u64 t1, .int .u64 t2]] (.tuple #[.agg #[.int .u64 x0, .int .u64 x1, .int .u64 x2], .bool one])))
    (HX' : Hid (Says 34 #[.agg #[.int .u64 p0, .int .u64 p1, .int .u64 p2], .agg #[.int .u64 t0, .int .u64 t1, .int .u64 t2]] (.tuple #[.agg #[.int .u64 x0, .int .u64 x1, .int .u64 x2], .bool one])))
    (HH : Hid (Says 35 #[.agg #[.int .u64 p0, .int .u64 p1, .int .u64 p2], .agg #[.int .u64 q0, .int .u64 q1, .int .u64 q2]] (.bool A1)))
    (HH' : Hid (Says 36 #[.agg #[.int .u64 p0, .int .u64 p1, .int .u64 p2], .agg #[.int .u64 q0, .int .u64 q1, .int .u64 q2]] (.bool A1)))
    (HC : Hid (Says 37 #[.agg #[.int .u64 p0, .int .u64 p1, .int .u64 p2], .agg #[.int .u64 q0, .int .u64 q1, .int .u64 q2]] (.int .i64 c)))
    (HC' : Hid (Says 38 #[.agg #[.int .u64 p0, .int .u64 p1, .int .u64 p2], .agg #[.int .u64 q0, .int .u64 q1, .int .u64 q2]] (.int .i64 c)))
    (HV : Hid (Says 39 #[.agg #[.int .u64 p0, .int .u64 p1, .int .u64 p2]] (.bool (!dx))))
    (HF : Hid (Says 41 #[.agg #[.int .u64 p0, .int .u64 p1, .int .u64 p2], .int .i64 n] (.int .i64 f)))
    (HF' : Hid (Says 42 #[.agg #[.int .u64 p0, .int .u64 p1, .int .u64 p2], .int .i64 n] (.int .i64 f)))
    (eA : Hid (∀ W, (binOp .eql 40 (.agg #[.int .u64 a0, .int .u64 a1, .int .u64 a2]) (.agg #[.int .u64 a0, .int .u64 a1, .int .u64 a2])).run Tryz.prog W = .ok (.bool true) W))
    (eX : Hid (∀ W, (binOp .eql 25 (.agg #[.int .u64 x0, .int .u64 x1, .int .u64 x2]) (.agg #[.int .u64 x0, .int .u64 x1, .int .u64 x2])).run Tryz.prog W = .ok (.bool true) W))
    (nP : Hid (∀ W, (binOp .neq 40 (.agg #[.int .u64 p0, .int .u64 p1, .int .u64 p2]) (.agg #[.int .u64 0, .int .u64 0, .int .u64 0])).run Tryz.prog W = .ok (.bool (!dx)) W)) :
    Calls Tryz.prog 5 #[.agg #[.int .u64 p0, .int .u64 p1, .int .u64 p2, .int .u64 q0, .int .u64 q1, .int .u64 q2, .int .u64 r0, .int .u64 r1, .int .u64 r2, .int .u64 t0, .int .u64 t1, .int .u64 t2, .int .u64 u0, .int .u64 u1, .int .u64 u2, .int .i64 n]] w fun e w' => e = .returned (.bool true) ∧ Below w.heap.size w w' := by
  have HG := Lib.hid hg
  clear hg
  have hgt := tm_guard
  have hgp := pt_guard
  go_enter Tryz.func5, Tryz.ntmps5
  go_upto_region 2 with fail
  go_cut [3, 4, 5, 6] (fun s3 s4 s5 s6 wc => ∃ p q r : Nat, s3 = .pointer (some ⟨p, 0, none⟩) ∧ s4 = .pointer (some ⟨q, 0, none⟩) ∧ s5 = .pointer (some ⟨r, 0, none⟩) ∧ s6 = .int .i64 n ∧ Blk wc p #[.int .u64 p0, .int .u64 p1, .int .u64 p2] 40 ∧ Blk wc q #[.int .u64 q0, .int .u64 q1, .int .u64 q2] 40 ∧ Blk wc r #[.int .u64 t0, .int .u64 t1, .int .u64 t2] 25 ∧ Below w.heap.size w wc)
  case first => as_aux_lemma =>
    have hb := Lib.hid (Blk.new w #[.int .u64 p0, .int .u64 p1, .int .u64 p2, .int .u64 q0, .int .u64 q1, .int .u64 q2, .int .u64 r0, .int .u64 r1, .int .u64 r2, .int .u64 t0, .int .u64 t1, .int .u64 t2, .int .u64 u0, .int .u64 u1, .int .u64 u2, .int .i64 n] 42)
    clear HA HA' HX HX' HH HH' HC HC' HV HF HF' eA eX nP HG
    refine wp_region_facts3 15 (Par3N _ (.pointer (some ⟨w.heap.size, 15, none⟩)) (.int .i64 n) (offP w.heap.size [0, 3, 9]) (rowsP [#[.int .u64 p0, .int .u64 p1, .int .u64 p2], #[.int .u64 q0, .int .u64 q1, .int .u64 q2], #[.int .u64 t0, .int .u64 t1, .int .u64 t2]]) #[.int .u64 0, .int .u64 0, .int .u64 0] (tysP [40, 40, 25])) (by kernel_rfl) (by kernel_rfl) (fun us => ⟨Par3.start, fun h => (by cases h), fun h => (by cases h), fun h => (by cases h)⟩) ?op ?en
    case op =>
      simp only [List.take_succ_cons, List.take_zero, Fct.obl3]
      refine ⟨fun L us W hLk hI hd hcl A hf => ?_, fun L us W hLk hI hd hcl A hf => ?_, fun L us W hLk hI hd hcl A hf => ?_, fun L us W hLk hI hd hcl A hf => ?_, fun L us W hLk hI hd hcl A hf => ?_, fun L us W hLk hI hd hcl A hf => ?_, fun L us W hLk hI hd hcl A hf => ?_, fun L us W hLk hI hd hcl A hf => ?_, fun L us W hLk hI hd hcl A hf => ?_, fun L us W hLk hI hd hcl A hf => ?_, fun L us W hLk hI hd hcl A hf => ?_, fun L us W hLk hI hd hcl A hf => ?_, fun L us W hLk hI hd hcl A hf => ?_, fun L us W hLk hI hd hcl A hf => ?_, fun L us W hLk hI hd hcl A hf => ?_, trivial⟩
      case refine_1 => as_aux_lemma => (have e1 : A.tmps.getD 1 undef = .pointer (some ⟨w.heap.size, 0, none⟩) := hf 1; clear hf hd hcl; go_simp; exact ⟨_, rfl, Par3.addr (i := 0) (by omega) hI.1, hI.2.other (by decide)⟩)
      case refine_2 => as_aux_lemma => (have e1 : A.tmps.getD 17 undef = us (2 * 0) := hf 17; have k1 := hI.1.2.1 0 (by omega) (hd (2 * 0) (by kernel_rfl)); rw [k1] at e1; clear k1; simp only [offP, List.getD_cons_zero, List.getD_cons_succ] at e1; have hB := hb.out.below hI.1.1 hb.out.lt; have c0 := hB.cell (0) _ rfl; have c1 := hB.cell (0 + 1) _ rfl; have c2 := hB.cell (0 + 2) _ rfl; clear hf hd hcl hB; go_simp; exact ⟨_, rfl, Par3.look (i := 0) (by omega) hI.1, hI.2.other (by decide)⟩)
      case refine_3 => as_aux_lemma => (have e1 : A.tmps.getD 1 undef = .pointer (some ⟨w.heap.size, 0, none⟩) := hf 1; clear hf hd hcl; go_simp; exact ⟨_, rfl, Par3.addr (i := 1) (by omega) hI.1, hI.2.other (by decide)⟩)
      case refine_4 => as_aux_lemma => (have e1 : A.tmps.getD 19 undef = us (2 * 1) := hf 19; have k1 := hI.1.2.1 1 (by omega) (hd (2 * 1) (by kernel_rfl)); rw [k1] at e1; clear k1; simp only [offP, List.getD_cons_zero, List.getD_cons_succ] at e1; have hB := hb.out.below hI.1.1 hb.out.lt; have c0 := hB.cell (3) _ rfl; have c1 := hB.cell (3 + 1) _ rfl; have c2 := hB.cell (3 + 2) _ rfl; clear hf hd hcl hB; go_simp; exact ⟨_, rfl, Par3.look (i := 1) (by omega) hI.1, hI.2.other (by decide)⟩)
      case refine_5 => as_aux_lemma => (have e1 : A.tmps.getD 1 undef = .pointer (some ⟨w.heap.size, 0, none⟩) := hf 1; clear hf hd hcl; go_simp; exact ⟨_, rfl, Par3.addr (i := 2) (by omega) hI.1, hI.2.other (by decide)⟩)
      case refine_6 => as_aux_lemma => (have e1 : A.tmps.getD 21 undef = us (2 * 2) := hf 21; have k1 := hI.1.2.1 2 (by omega) (hd (2 * 2) (by kernel_rfl)); rw [k1] at e1; clear k1; simp only [offP, List.getD_cons_zero, List.getD_cons_succ] at e1; have hB := hb.out.below hI.1.1 hb.out.lt; have c0 := hB.cell (9) _ rfl; have c1 := hB.cell (9 + 1) _ rfl; have c2 := hB.cell (9 + 2) _ rfl; clear hf hd hcl hB; go_simp; exact ⟨_, rfl, Par3.look (i := 2) (by omega) hI.1, hI.2.other (by decide)⟩)
      case refine_7 => as_aux_lemma =>
        have e1 : A.tmps.getD 1 undef = .pointer (some ⟨w.heap.size, 0, none⟩) := hf 1
        clear hf hd hcl
        go_simp
        exact ⟨_, rfl, hI.1.other (by decide), hI.2.at6⟩
      case refine_8 => as_aux_lemma =>
        have k1 := hI.2.1 (hd 6 (by kernel_rfl))
        have e1 : A.tmps.getD 23 undef = .pointer (some ⟨w.heap.size, 15, none⟩) := (hf 23).trans k1
        have hB := hb.out.below hI.1.1 hb.out.lt
        have c0 := hB.cell 15 _ rfl
        clear hf hd hcl hB k1
        go_simp
        exact ⟨_, rfl, hI.1.other (by decide), hI.2.at7⟩
      case refine_9 => as_aux_lemma => (have hz : L (11 + 0) = false := (by cases h : L (11 + 0) with | false => rfl | true => (have h8 := hcl _ (8 + 0) h (by kernel_rfl); exact absurd (hLk.symm.trans h8) Bool.false_ne_true)); clear hf hd hcl; go_simp; exact ⟨_, rfl, Par3.new (i := 0) (by omega) hz hI.1, hI.2.other (by decide)⟩)
      case refine_10 => as_aux_lemma => (have hz : L (11 + 1) = false := (by cases h : L (11 + 1) with | false => rfl | true => (have h8 := hcl _ (8 + 1) h (by kernel_rfl); exact absurd (hLk.symm.trans h8) Bool.false_ne_true)); clear hf hd hcl; go_simp; exact ⟨_, rfl, Par3.new (i := 1) (by omega) hz hI.1, hI.2.other (by decide)⟩)
      case refine_11 => as_aux_lemma => (have hz : L (11 + 2) = false := (by cases h : L (11 + 2) with | false => rfl | true => (have h8 := hcl _ (8 + 2) h (by kernel_rfl); exact absurd (hLk.symm.trans h8) Bool.false_ne_true)); clear hf hd hcl; go_simp; exact ⟨_, rfl, Par3.new (i := 2) (by omega) hz hI.1, hI.2.other (by decide)⟩)
      case refine_12 => as_aux_lemma => (have e1 : A.tmps.getD 3 undef = us (8 + 0) := hf 3; have e2 : A.tmps.getD 18 undef = us (2 * 0 + 1) := hf 18; have hl := hd (8 + 0) (by kernel_rfl); obtain ⟨k, k1, k2, k3⟩ := hI.1.ptr (i := 0) (by omega) hl hLk; have k4 := hI.1.2.2.1 0 (by omega) (hd (2 * 0 + 1) (by kernel_rfl)); rw [k1] at e1; rw [k4] at e2; simp only [rowsP, List.getD_cons_zero, List.getD_cons_succ] at e2; have c0 := k3.cell 0 _ rfl; have c1 := k3.cell 1 _ rfl; have c2 := k3.cell 2 _ rfl; have cf := k3.frozen; clear hf hd hcl k4; have K1 := Lib.hid k1; clear k1; go_simp; exact ⟨undef, Par3.write (i := 0) (by omega) hI.1 hl hLk K1.out k2 k3 rfl, hI.2.other (by decide)⟩)
      case refine_13 => as_aux_lemma => (have e1 : A.tmps.getD 4 undef = us (8 + 1) := hf 4; have e2 : A.tmps.getD 20 undef = us (2 * 1 + 1) := hf 20; have hl := hd (8 + 1) (by kernel_rfl); obtain ⟨k, k1, k2, k3⟩ := hI.1.ptr (i := 1) (by omega) hl hLk; have k4 := hI.1.2.2.1 1 (by omega) (hd (2 * 1 + 1) (by kernel_rfl)); rw [k1] at e1; rw [k4] at e2; simp only [rowsP, List.getD_cons_zero, List.getD_cons_succ] at e2; have c0 := k3.cell 0 _ rfl; have c1 := k3.cell 1 _ rfl; have c2 := k3.cell 2 _ rfl; have cf := k3.frozen; clear hf hd hcl k4; have K1 := Lib.hid k1; clear k1; go_simp; exact ⟨undef, Par3.write (i := 1) (by omega) hI.1 hl hLk K1.out k2 k3 rfl, hI.2.other (by decide)⟩)
      case refine_14 => as_aux_lemma => (have e1 : A.tmps.getD 5 undef = us (8 + 2) := hf 5; have e2 : A.tmps.getD 22 undef = us (2 * 2 + 1) := hf 22; have hl := hd (8 + 2) (by kernel_rfl); obtain ⟨k, k1, k2, k3⟩ := hI.1.ptr (i := 2) (by omega) hl hLk; have k4 := hI.1.2.2.1 2 (by omega) (hd (2 * 2 + 1) (by kernel_rfl)); rw [k1] at e1; rw [k4] at e2; simp only [rowsP, List.getD_cons_zero, List.getD_cons_succ] at e2; have c0 := k3.cell 0 _ rfl; have c1 := k3.cell 1 _ rfl; have c2 := k3.cell 2 _ rfl; have cf := k3.frozen; clear hf hd hcl k4; have K1 := Lib.hid k1; clear k1; go_simp; exact ⟨undef, Par3.write (i := 2) (by omega) hI.1 hl hLk K1.out k2 k3 rfl, hI.2.other (by decide)⟩)
      case refine_15 => as_aux_lemma =>
        have k1 := hI.2.2.1 (hd 7 (by kernel_rfl))
        have e1 : A.tmps.getD 24 undef = .int .i64 n := (hf 24).trans k1
        clear hf hd hcl k1
        go_simp
        exact ⟨_, rfl, hI.1.other (by decide), hI.2.at14⟩
    case en => as_aux_lemma =>
      intro L us W hL hI
      obtain ⟨p, q, r, e0, e1, e2, b0, b1, b2, hbw⟩ := hI.1.done hL
      have e14 : us 14 = .int .i64 n := hI.2.2.2 (hL 14 (by omega))
      simp only [List.take_succ_cons, List.take_zero, List.drop_succ_cons, List.drop_zero, Fct.fin, e0, e1, e2, e14, Act.put, List.setIfInBounds_toArray, List.set_cons_zero, List.set_cons_succ]
      clear hI hL hb e0 e1 e2 e14
      go_wp2_with fail
      go_meet
      exact ⟨_, _, _, rfl, rfl, rfl, rfl, b0, b1, b2, Bel.step' (Bel.alloc' (Below.refl _ _) _) hbw⟩
  case rest => as_aux_lemma =>
    obtain ⟨p, q, r, rfl, rfl, rfl, rfl, kP, kQ, kT, hbw⟩ := hcut
    (((try clear c0P c1P c2P); (try clear c0Q c1Q c2Q); (try clear c0R c1R c2R); (try clear c0T c1T c2T); (try clear c0U c1U c2U); (try clear c0A c1A c2A); (try clear c0B c1B c2B); (try clear c0C c1C c2C); (try clear c0D c1D c2D); (try clear c0E c1E c2E); (try clear c0X c1X c2X); (try clear c0Y c1Y c2Y); (try clear c0Z c1Z c2Z); (try clear c0F c1F c2F); (try clear c0G c1G c2G)); ((try (have c0P := kP.cell 0 _ rfl; have c1P := kP.cell 1 _ rfl; have c2P := kP.cell 2 _ rfl)); (try (have c0Q := kQ.cell 0 _ rfl; have c1Q := kQ.cell 1 _ rfl; have c2Q := kQ.cell 2 _ rfl)); (try (have c0R := kR.cell 0 _ rfl; have c1R := kR.cell 1 _ rfl; have c2R := kR.cell 2 _ rfl)); (try (have c0T := kT.cell 0 _ rfl; have c1T := kT.cell 1 _ rfl; have c2T := kT.cell 2 _ rfl)); (try (have c0U := kU.cell 0 _ rfl; have c1U := kU.cell 1 _ rfl; have c2U := kU.cell 2 _ rfl)); (try (have c0A := kA.cell 0 _ rfl; have c1A := kA.cell 1 _ rfl; have c2A := kA.cell 2 _ rfl)); (try (have c0B := kB.cell 0 _ rfl; have c1B := kB.cell 1 _ rfl; have c2B := kB.cell 2 _ rfl)); (try (have c0C := kC.cell 0 _ rfl; have c1C := kC.cell 1 _ rfl; have c2C := kC.cell 2 _ rfl)); (try (have c0D := kD.cell 0 _ rfl; have c1D := kD.cell 1 _ rfl; have c2D := kD.cell 2 _ rfl)); (try (have c0E := kE.cell 0 _ rfl; have c1E := kE.cell 1 _ rfl; have c2E := kE.cell 2 _ rfl)); (try (have c0X := kX.cell 0 _ rfl; have c1X := kX.cell 1 _ rfl; have c2X := kX.cell 2 _ rfl)); (try (have c0Y := kY.cell 0 _ rfl; have c1Y := kY.cell 1 _ rfl; have c2Y := kY.cell 2 _ rfl)); (try (have c0Z := kZ.cell 0 _ rfl; have c1Z := kZ.cell 1 _ rfl; have c2Z := kZ.cell 2 _ rfl)); (try (have c0F := kF.cell 0 _ rfl; have c1F := kF.cell 1 _ rfl; have c2F := kF.cell 2 _ rfl)); (try (have c0G := kG.cell 0 _ rfl; have c1G := kG.cell 1 _ rfl; have c2G := kG.cell 2 _ rfl))); go_upto_region 3 with (go_at_call 31; refine ((HA).out.at _).mono ?_; rintro e w2 ⟨rfl, hb2⟩; have hb2' := hb2.alloc hb2.size (.cells #[.int .u64 a0, .int .u64 a1, .int .u64 a2] 40); ((try replace kP := kP.later hb2'); (try replace kQ := kQ.later hb2'); (try replace kR := kR.later hb2'); (try replace kT := kT.later hb2'); (try replace kU := kU.later hb2'); (try replace kA := kA.later hb2'); (try replace kB := kB.later hb2'); (try replace kC := kC.later hb2'); (try replace kD := kD.later hb2'); (try replace kE := kE.later hb2'); (try replace kX := kX.later hb2'); (try replace kY := kY.later hb2'); (try replace kZ := kZ.later hb2'); (try replace kF := kF.later hb2'); (try replace kG := kG.later hb2'); replace hbw := Bel.step' hbw hb2'); have kA := Blk.new w2 #[.int .u64 a0, .int .u64 a1, .int .u64 a2] 40); ((try clear c0P c1P c2P); (try clear c0Q c1Q c2Q); (try clear c0R c1R c2R); (try clear c0T c1T c2T); (try clear c0U c1U c2U); (try clear c0A c1A c2A); (try clear c0B c1B c2B); (try clear c0C c1C c2C); (try clear c0D c1D c2D); (try clear c0E c1E c2E); (try clear c0X c1X c2X); (try clear c0Y c1Y c2Y); (try clear c0Z c1Z c2Z); (try clear c0F c1F c2F); (try clear c0G c1G c2G)); clear hb2 hb2'; generalize w2.heap.size = ba at *; generalize w2.alloc (.cells #[.int .u64 a0, .int .u64 a1, .int .u64 a2] 40) = wz at *)
    (((try clear c0P c1P c2P); (try clear c0Q c1Q c2Q); (try clear c0R c1R c2R); (try clear c0T c1T c2T); (try clear c0U c1U c2U); (try clear c0A c1A c2A); (try clear c0B c1B c2B); (try clear c0C c1C c2C); (try clear c0D c1D c2D); (try clear c0E c1E c2E); (try clear c0X c1X c2X); (try clear c0Y c1Y c2Y); (try clear c0Z c1Z c2Z); (try clear c0F c1F c2F); (try clear c0G c1G c2G)); ((try (have c0P := kP.cell 0 _ rfl; have c1P := kP.cell 1 _ rfl; have c2P := kP.cell 2 _ rfl)); (try (have c0Q := kQ.cell 0 _ rfl; have c1Q := kQ.cell 1 _ rfl; have c2Q := kQ.cell 2 _ rfl)); (try (have c0R := kR.cell 0 _ rfl; have c1R := kR.cell 1 _ rfl; have c2R := kR.cell 2 _ rfl)); (try (have c0T := kT.cell 0 _ rfl; have c1T := kT.cell 1 _ rfl; have c2T := kT.cell 2 _ rfl)); (try (have c0U := kU.cell 0 _ rfl; have c1U := kU.cell 1 _ rfl; have c2U := kU.cell 2 _ rfl)); (try (have c0A := kA.cell 0 _ rfl; have c1A := kA.cell 1 _ rfl; have c2A := kA.cell 2 _ rfl)); (try (have c0B := kB.cell 0 _ rfl; have c1B := kB.cell 1 _ rfl; have c2B := kB.cell 2 _ rfl)); (try (have c0C := kC.cell 0 _ rfl; have c1C := kC.cell 1 _ rfl; have c2C := kC.cell 2 _ rfl)); (try (have c0D := kD.cell 0 _ rfl; have c1D := kD.cell 1 _ rfl; have c2D := kD.cell 2 _ rfl)); (try (have c0E := kE.cell 0 _ rfl; have c1E := kE.cell 1 _ rfl; have c2E := kE.cell 2 _ rfl)); (try (have c0X := kX.cell 0 _ rfl; have c1X := kX.cell 1 _ rfl; have c2X := kX.cell 2 _ rfl)); (try (have c0Y := kY.cell 0 _ rfl; have c1Y := kY.cell 1 _ rfl; have c2Y := kY.cell 2 _ rfl)); (try (have c0Z := kZ.cell 0 _ rfl; have c1Z := kZ.cell 1 _ rfl; have c2Z := kZ.cell 2 _ rfl)); (try (have c0F := kF.cell 0 _ rfl; have c1F := kF.cell 1 _ rfl; have c2F := kF.cell 2 _ rfl)); (try (have c0G := kG.cell 0 _ rfl; have c1G := kG.cell 1 _ rfl; have c2G := kG.cell 2 _ rfl))); go_upto_region 4 with (go_at_call 32; refine ((HA').out.at _).mono ?_; rintro e w2 ⟨rfl, hb2⟩; have hb2' := hb2.alloc hb2.size (.cells #[.int .u64 a0, .int .u64 a1, .int .u64 a2] 40); ((try replace kP := kP.later hb2'); (try replace kQ := kQ.later hb2'); (try replace kR := kR.later hb2'); (try replace kT := kT.later hb2'); (try replace kU := kU.later hb2'); (try replace kA := kA.later hb2'); (try replace kB := kB.later hb2'); (try replace kC := kC.later hb2'); (try replace kD := kD.later hb2'); (try replace kE := kE.later hb2'); (try replace kX := kX.later hb2'); (try replace kY := kY.later hb2'); (try replace kZ := kZ.later hb2'); (try replace kF := kF.later hb2'); (try replace kG := kG.later hb2'); replace hbw := Bel.step' hbw hb2'); have kB := Blk.new w2 #[.int .u64 a0, .int .u64 a1, .int .u64 a2] 40); ((try clear c0P c1P c2P); (try clear c0Q c1Q c2Q); (try clear c0R c1R c2R); (try clear c0T c1T c2T); (try clear c0U c1U c2U); (try clear c0A c1A c2A); (try clear c0B c1B c2B); (try clear c0C c1C c2C); (try clear c0D c1D c2D); (try clear c0E c1E c2E); (try clear c0X c1X c2X); (try clear c0Y c1Y c2Y); (try clear c0Z c1Z c2Z); (try clear c0F c1F c2F); (try clear c0G c1G c2G)); clear hb2 hb2'; generalize w2.heap.size = bb at *; generalize w2.alloc (.cells #[.int .u64 a0, .int .u64 a1, .int .u64 a2] 40) = wz at *)
    (((try clear c0P c1P c2P); (try clear c0Q c1Q c2Q); (try clear c0R c1R c2R); (try clear c0T c1T c2T); (try clear c0U c1U c2U); (try clear c0A c1A c2A); (try clear c0B c1B c2B); (try clear c0C c1C c2C); (try clear c0D c1D c2D); (try clear c0E c1E c2E); (try clear c0X c1X c2X); (try clear c0Y c1Y c2Y); (try clear c0Z c1Z c2Z); (try clear c0F c1F c2F); (try clear c0G c1G c2G)); ((try (have c0P := kP.cell 0 _ rfl; have c1P := kP.cell 1 _ rfl; have c2P := kP.cell 2 _ rfl)); (try (have c0Q := kQ.cell 0 _ rfl; have c1Q := kQ.cell 1 _ rfl; have c2Q := kQ.cell 2 _ rfl)); (try (have c0R := kR.cell 0 _ rfl; have c1R := kR.cell 1 _ rfl; have c2R := kR.cell 2 _ rfl)); (try (have c0T := kT.cell 0 _ rfl; have c1T := kT.cell 1 _ rfl; have c2T := kT.cell 2 _ rfl)); (try (have c0U := kU.cell 0 _ rfl; have c1U := kU.cell 1 _ rfl; have c2U := kU.cell 2 _ rfl)); (try (have c0A := kA.cell 0 _ rfl; have c1A := kA.cell 1 _ rfl; have c2A := kA.cell 2 _ rfl)); (try (have c0B := kB.cell 0 _ rfl; have c1B := kB.cell 1 _ rfl; have c2B := kB.cell 2 _ rfl)); (try (have c0C := kC.cell 0 _ rfl; have c1C := kC.cell 1 _ rfl; have c2C := kC.cell 2 _ rfl)); (try (have c0D := kD.cell 0 _ rfl; have c1D := kD.cell 1 _ rfl; have c2D := kD.cell 2 _ rfl)); (try (have c0E := kE.cell 0 _ rfl; have c1E := kE.cell 1 _ rfl; have c2E := kE.cell 2 _ rfl)); (try (have c0X := kX.cell 0 _ rfl; have c1X := kX.cell 1 _ rfl; have c2X := kX.cell 2 _ rfl)); (try (have c0Y := kY.cell 0 _ rfl; have c1Y := kY.cell 1 _ rfl; have c2Y := kY.cell 2 _ rfl)); (try (have c0Z := kZ.cell 0 _ rfl; have c1Z := kZ.cell 1 _ rfl; have c2Z := kZ.cell 2 _ rfl)); (try (have c0F := kF.cell 0 _ rfl; have c1F := kF.cell 1 _ rfl; have c2F := kF.cell 2 _ rfl)); (try (have c0G := kG.cell 0 _ rfl; have c1G := kG.cell 1 _ rfl; have c2G := kG.cell 2 _ rfl))); go_upto_region 5 with (go_at_call 33; refine ((HX).out.at _).mono ?_; rintro e w2 ⟨rfl, hb2⟩; have hb2' := hb2.alloc hb2.size (.cells #[.int .u64 x0, .int .u64 x1, .int .u64 x2] 25); ((try replace kP := kP.later hb2'); (try replace kQ := kQ.later hb2'); (try replace kR := kR.later hb2'); (try replace kT := kT.later hb2'); (try replace kU := kU.later hb2'); (try replace kA := kA.later hb2'); (try replace kB := kB.later hb2'); (try replace kC := kC.later hb2'); (try replace kD := kD.later hb2'); (try replace kE := kE.later hb2'); (try replace kX := kX.later hb2'); (try replace kY := kY.later hb2'); (try replace kZ := kZ.later hb2'); (try replace kF := kF.later hb2'); (try replace kG := kG.later hb2'); replace hbw := Bel.step' hbw hb2'); have kX := Blk.new w2 #[.int .u64 x0, .int .u64 x1, .int .u64 x2] 25); ((try clear c0P c1P c2P); (try clear c0Q c1Q c2Q); (try clear c0R c1R c2R); (try clear c0T c1T c2T); (try clear c0U c1U c2U); (try clear c0A c1A c2A); (try clear c0B c1B c2B); (try clear c0C c1C c2C); (try clear c0D c1D c2D); (try clear c0E c1E c2E); (try clear c0X c1X c2X); (try clear c0Y c1Y c2Y); (try clear c0Z c1Z c2Z); (try clear c0F c1F c2F); (try clear c0G c1G c2G)); clear hb2 hb2'; generalize w2.heap.size = bx at *; generalize w2.alloc (.cells #[.int .u64 x0, .int .u64 x1, .int .u64 x2] 25) = wz at *)
    (((try clear c0P c1P c2P); (try clear c0Q c1Q c2Q); (try clear c0R c1R c2R); (try clear c0T c1T c2T); (try clear c0U c1U c2U); (try clear c0A c1A c2A); (try clear c0B c1B c2B); (try clear c0C c1C c2C); (try clear c0D c1D c2D); (try clear c0E c1E c2E); (try clear c0X c1X c2X); (try clear c0Y c1Y c2Y); (try clear c0Z c1Z c2Z); (try clear c0F c1F c2F); (try clear c0G c1G c2G)); ((try (have c0P := kP.cell 0 _ rfl; have c1P := kP.cell 1 _ rfl; have c2P := kP.cell 2 _ rfl)); (try (have c0Q := kQ.cell 0 _ rfl; have c1Q := kQ.cell 1 _ rfl; have c2Q := kQ.cell 2 _ rfl)); (try (have c0R := kR.cell 0 _ rfl; have c1R := kR.cell 1 _ rfl; have c2R := kR.cell 2 _ rfl)); (try (have c0T := kT.cell 0 _ rfl; have c1T := kT.cell 1 _ rfl; have c2T := kT.cell 2 _ rfl)); (try (have c0U := kU.cell 0 _ rfl; have c1U := kU.cell 1 _ rfl; have c2U := kU.cell 2 _ rfl)); (try (have c0A := kA.cell 0 _ rfl; have c1A := kA.cell 1 _ rfl; have c2A := kA.cell 2 _ rfl)); (try (have c0B := kB.cell 0 _ rfl; have c1B := kB.cell 1 _ rfl; have c2B := kB.cell 2 _ rfl)); (try (have c0C := kC.cell 0 _ rfl; have c1C := kC.cell 1 _ rfl; have c2C := kC.cell 2 _ rfl)); (try (have c0D := kD.cell 0 _ rfl; have c1D := kD.cell 1 _ rfl; have c2D := kD.cell 2 _ rfl)); (try (have c0E := kE.cell 0 _ rfl; have c1E := kE.cell 1 _ rfl; have c2E := kE.cell 2 _ rfl)); (try (have c0X := kX.cell 0 _ rfl; have c1X := kX.cell 1 _ rfl; have c2X := kX.cell 2 _ rfl)); (try (have c0Y := kY.cell 0 _ rfl; have c1Y := kY.cell 1 _ rfl; have c2Y := kY.cell 2 _ rfl)); (try (have c0Z := kZ.cell 0 _ rfl; have c1Z := kZ.cell 1 _ rfl; have c2Z := kZ.cell 2 _ rfl)); (try (have c0F := kF.cell 0 _ rfl; have c1F := kF.cell 1 _ rfl; have c2F := kF.cell 2 _ rfl)); (try (have c0G := kG.cell 0 _ rfl; have c1G := kG.cell 1 _ rfl; have c2G := kG.cell 2 _ rfl))); go_upto_region 6 with (go_at_call 34; refine ((HX').out.at _).mono ?_; rintro e w2 ⟨rfl, hb2⟩; have hb2' := hb2.alloc hb2.size (.cells #[.int .u64 x0, .int .u64 x1, .int .u64 x2] 25); ((try replace kP := kP.later hb2'); (try replace kQ := kQ.later hb2'); (try replace kR := kR.later hb2'); (try replace kT := kT.later hb2'); (try replace kU := kU.later hb2'); (try replace kA := kA.later hb2'); (try replace kB := kB.later hb2'); (try replace kC := kC.later hb2'); (try replace kD := kD.later hb2'); (try replace kE := kE.later hb2'); (try replace kX := kX.later hb2'); (try replace kY := kY.later hb2'); (try replace kZ := kZ.later hb2'); (try replace kF := kF.later hb2'); (try replace kG := kG.later hb2'); replace hbw := Bel.step' hbw hb2'); have kY := Blk.new w2 #[.int .u64 x0, .int .u64 x1, .int .u64 x2] 25); ((try clear c0P c1P c2P); (try clear c0Q c1Q c2Q); (try clear c0R c1R c2R); (try clear c0T c1T c2T); (try clear c0U c1U c2U); (try clear c0A c1A c2A); (try clear c0B c1B c2B); (try clear c0C c1C c2C); (try clear c0D c1D c2D); (try clear c0E c1E c2E); (try clear c0X c1X c2X); (try clear c0Y c1Y c2Y); (try clear c0Z c1Z c2Z); (try clear c0F c1F c2F); (try clear c0G c1G c2G)); clear hb2 hb2'; generalize w2.heap.size = b_y at *; generalize w2.alloc (.cells #[.int .u64 x0, .int .u64 x1, .int .u64 x2] 25) = wz at *)
    clear HA HA' HX HX'
    go_cut [15] (fun s15 wc => s15 = .bool true ∧ Blk wc p #[.int .u64 p0, .int .u64 p1, .int .u64 p2] 40 ∧ Blk wc q #[.int .u64 q0, .int .u64 q1, .int .u64 q2] 40 ∧ Blk wc r #[.int .u64 t0, .int .u64 t1, .int .u64 t2] 25 ∧ Below w.heap.size w wc)
    case first => as_aux_lemma =>
      have ho : (ok == ok) = true := by simp
      have hn : (one == one) = true := by simp
      have heA := eA.out
      have heX := eX.out
      ((try (have c0P := kP.cell 0 _ rfl; have c1P := kP.cell 1 _ rfl; have c2P := kP.cell 2 _ rfl)); (try (have c0Q := kQ.cell 0 _ rfl; have c1Q := kQ.cell 1 _ rfl; have c2Q := kQ.cell 2 _ rfl)); (try (have c0R := kR.cell 0 _ rfl; have c1R := kR.cell 1 _ rfl; have c2R := kR.cell 2 _ rfl)); (try (have c0T := kT.cell 0 _ rfl; have c1T := kT.cell 1 _ rfl; have c2T := kT.cell 2 _ rfl)); (try (have c0U := kU.cell 0 _ rfl; have c1U := kU.cell 1 _ rfl; have c2U := kU.cell 2 _ rfl)); (try (have c0A := kA.cell 0 _ rfl; have c1A := kA.cell 1 _ rfl; have c2A := kA.cell 2 _ rfl)); (try (have c0B := kB.cell 0 _ rfl; have c1B := kB.cell 1 _ rfl; have c2B := kB.cell 2 _ rfl)); (try (have c0C := kC.cell 0 _ rfl; have c1C := kC.cell 1 _ rfl; have c2C := kC.cell 2 _ rfl)); (try (have c0D := kD.cell 0 _ rfl; have c1D := kD.cell 1 _ rfl; have c2D := kD.cell 2 _ rfl)); (try (have c0E := kE.cell 0 _ rfl; have c1E := kE.cell 1 _ rfl; have c2E := kE.cell 2 _ rfl)); (try (have c0X := kX.cell 0 _ rfl; have c1X := kX.cell 1 _ rfl; have c2X := kX.cell 2 _ rfl)); (try (have c0Y := kY.cell 0 _ rfl; have c1Y := kY.cell 1 _ rfl; have c2Y := kY.cell 2 _ rfl)); (try (have c0Z := kZ.cell 0 _ rfl; have c1Z := kZ.cell 1 _ rfl; have c2Z := kZ.cell 2 _ rfl)); (try (have c0F := kF.cell 0 _ rfl; have c1F := kF.cell 1 _ rfl; have c2F := kF.cell 2 _ rfl)); (try (have c0G := kG.cell 0 _ rfl; have c1G := kG.cell 1 _ rfl; have c2G := kG.cell 2 _ rfl)))
      go_wp2_with fail
      go_meet
      exact ⟨rfl, kP, kQ, kT, hbw⟩
    case rest => as_aux_lemma =>
      obtain ⟨rfl, kP, kQ, kT, hbw⟩ := hcut
      clear eA eX
      go_upto_region 7 with fail
      go_cut [16] (fun s16 wc => s16 = .bool true ∧ Blk wc p #[.int .u64 p0, .int .u64 p1, .int .u64 p2] 40 ∧ Blk wc q #[.int .u64 q0, .int .u64 q1, .int .u64 q2] 40 ∧ Blk wc r #[.int .u64 t0, .int .u64 t1, .int .u64 t2] 25 ∧ Below w.heap.size w wc)
      case first => as_aux_lemma =>
        have Q1 := Lib.hid (quiet_call (X := wc) (fun W _ => HH.out.at W))
        have Q2 := Lib.hid (quiet_call (X := wc) (fun W _ => HH'.out.at W))
        have Q3 := Lib.hid (quiet_call (X := wc) (fun W _ => HC.out.at W))
        have Q4 := Lib.hid (quiet_call (X := wc) (fun W _ => HC'.out.at W))
        have Q5 := Lib.hid (quiet_call (X := wc) (fun W _ => HV.out.at W))
        have p0c := cell_regrown (kP.cell 0 _ rfl)
        have p1c := cell_regrown (kP.cell 1 _ rfl)
        have p2c := cell_regrown (kP.cell 2 _ rfl)
        have q0c := cell_regrown (kQ.cell 0 _ rfl)
        have q1c := cell_regrown (kQ.cell 1 _ rfl)
        have q2c := cell_regrown (kQ.cell 2 _ rfl)
        have ha : (A1 == A1) = true := by simp
        have hc : (c == c) = true := by simp
        have hnP := nP.out
        cases dx with
        | true =>
          refine wp_region_quiet_below (by kernel_rfl) (by kernel_rfl) ?_; (repeat (go_big_quiet_step (first | exact Q1.out _ _ | exact Q2.out _ _ | exact Q3.out _ _ | exact Q4.out _ _ | exact Q5.out _ _))); refine wpQuiet_nil ?_; intro _ hw'; obtain ⟨⟨dq, osq⟩, hw''⟩ := hw'; subst hw''
          have hb5 := below_regrown wc dq osq
          clear p0c p1c p2c q0c q1c q2c Q1 Q2 Q3 Q4 Q5
          generalize grow (redrawn wc dq) osq = w5 at *
          go_wp2_with fail
          go_meet
          exact ⟨rfl, kP.later hb5, kQ.later hb5, kT.later hb5, Bel.step' hbw hb5⟩
        | false =>
          refine wp_region_quiet_below (by kernel_rfl) (by kernel_rfl) ?_; (repeat (go_big_quiet_step (first | exact Q1.out _ _ | exact Q2.out _ _ | exact Q3.out _ _ | exact Q4.out _ _ | exact Q5.out _ _))); refine wpQuiet_nil ?_; intro _ hw'; obtain ⟨⟨dq, osq⟩, hw''⟩ := hw'; subst hw''
          have hb5 := below_regrown wc dq osq
          clear p0c p1c p2c q0c q1c q2c Q1 Q2 Q3 Q4 Q5
          generalize grow (redrawn wc dq) osq = w5 at *
          go_wp2_with fail
          go_meet
          exact ⟨rfl, kP.later hb5, kQ.later hb5, kT.later hb5, Bel.step' hbw hb5⟩
      case rest => as_aux_lemma =>
        obtain ⟨rfl, kP, kQ, kT, hbw⟩ := hcut
        clear HH HH' HC HC' HV nP
        go_upto_region 8 with fail
        have Q1 := Lib.hid (quiet_call (X := wc) (fun W _ => HF.out.at W))
        have Q2 := Lib.hid (quiet_call (X := wc) (fun W _ => HF'.out.at W))
        have Q3 := Lib.hid (quiet_call (X := wc) (fun W hW => known_at W (HG.out.below (Bel.step' hbw hW))))
        have p0c := cell_regrown (kP.cell 0 _ rfl)
        have p1c := cell_regrown (kP.cell 1 _ rfl)
        have p2c := cell_regrown (kP.cell 2 _ rfl)
        have hff : (f == f) = true := by simp
        refine wp_region_quiet_below (by kernel_rfl) (by kernel_rfl) ?_; (repeat (go_big_quiet_step (first | exact Q1.out _ _ | exact Q2.out _ _ | exact Q3.out _ _))); refine wpQuiet_nil ?_; intro _ hw'; obtain ⟨⟨dq, osq⟩, hw''⟩ := hw'; subst hw''
        have hb5 := below_regrown wc dq osq
        clear p0c p1c p2c Q1 Q2 Q3
        generalize grow (redrawn wc dq) osq = w5 at *
        go_wp2
        go_ret
        exact ⟨rfl, Bel.step' hbw hb5⟩
end Go.Proofs.YtiiegpklpmogmaaGreatDoor
