/- slices.Compare at three numbers, stamp.Compare, walked. -/
import Derived.Test.YtiiegpklpmogmaaGreatDoorSt2
set_option linter.unusedVariables false
set_option linter.unusedSimpArgs false
namespace Go.Proofs.YtiiegpklpmogmaaGreatDoor
open Go.RowKit

set_option maxHeartbeats 2000000 in
set_option maxRecDepth 8000 in
theorem scmp_at (x y : Tm) (p q : Nat) (w : World) (hp : Blk w p (tmCells x).toArray 81) (hq : Blk w q (tmCells y).toArray 81) :
    Calls Tryz.prog 66 #[.slice (some ⟨p, 0, none⟩) 3 3, .slice (some ⟨q, 0, none⟩) 3 3] w fun e w' => e = .returned (.int .i64 (cmpV x y)) ∧ w' = w := by
  obtain ⟨a, b, c⟩ := x
  obtain ⟨d, f, g⟩ := y
  have p0 := hp.cell 0 _ rfl
  have p1 := hp.cell 1 _ rfl
  have p2 := hp.cell 2 _ rfl
  have q0 := hq.cell 0 _ rfl
  have q1 := hq.cell 1 _ rfl
  have q2 := hq.cell 2 _ rfl
  have HV : Hid (cmpV ⟨a, b, c⟩ ⟨d, f, g⟩ = if cmp1 a d ≠ 0 then cmp1 a d else if cmp1 b f ≠ 0 then cmp1 b f else cmp1 c g) := rfl
  clear hp hq
  by_cases h1 : cmp1 a d = 0
  · have t1 : (cmp1 a d != 0) = false := by simpa using h1
    by_cases h2 : cmp1 b f = 0
    · have t2 : (cmp1 b f != 0) = false := by simpa using h2
      by_cases h3 : cmp1 c g = 0
      · have t3 : (cmp1 c g != 0) = false := by simpa using h3
        have e : cmpV ⟨a, b, c⟩ ⟨d, f, g⟩ = 0 := by rw [HV.out]; simp [h1, h2, h3]
        rw [e]; clear e HV h1 h2 h3
        go_enter Tryz.func66, Tryz.ntmps66
        go_wp2
        refine wp_loop_rounds 4 ?_
        iterate 4 (rw [rounds_succ]; go_wp2_with (go_at_call 92; refine (ccmp_at _ _ _).mono ?_; rintro e w3 ⟨rfl, rfl⟩))
        go_ret
        exact ⟨rfl, rfl⟩
      · have t3 : (cmp1 c g != 0) = true := by simpa using h3
        have e : cmpV ⟨a, b, c⟩ ⟨d, f, g⟩ = cmp1 c g := by rw [HV.out]; simp [h1, h2]
        rw [e]; clear e HV h1 h2 h3
        go_enter Tryz.func66, Tryz.ntmps66
        go_wp2
        refine wp_loop_rounds 4 ?_
        iterate 3 (rw [rounds_succ]; go_wp2_with (go_at_call 92; refine (ccmp_at _ _ _).mono ?_; rintro e w3 ⟨rfl, rfl⟩))
        go_ret
        exact ⟨rfl, rfl⟩
    · have t2 : (cmp1 b f != 0) = true := by simpa using h2
      have e : cmpV ⟨a, b, c⟩ ⟨d, f, g⟩ = cmp1 b f := by rw [HV.out]; simp [h1, h2]
      rw [e]; clear e HV h1 h2
      go_enter Tryz.func66, Tryz.ntmps66
      go_wp2
      refine wp_loop_rounds 4 ?_
      iterate 2 (rw [rounds_succ]; go_wp2_with (go_at_call 92; refine (ccmp_at _ _ _).mono ?_; rintro e w3 ⟨rfl, rfl⟩))
      go_ret
      exact ⟨rfl, rfl⟩
  · have t1 : (cmp1 a d != 0) = true := by simpa using h1
    have e : cmpV ⟨a, b, c⟩ ⟨d, f, g⟩ = cmp1 a d := by rw [HV.out]; simp [h1]
    rw [e]; clear e HV h1
    go_enter Tryz.func66, Tryz.ntmps66
    go_wp2
    refine wp_loop_rounds 4 ?_
    iterate 1 (rw [rounds_succ]; go_wp2_with (go_at_call 92; refine (ccmp_at _ _ _).mono ?_; rintro e w3 ⟨rfl, rfl⟩))
    go_ret
    exact ⟨rfl, rfl⟩
end Go.Proofs.YtiiegpklpmogmaaGreatDoor
