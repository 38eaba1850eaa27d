/- The law's examples, walked. -/
import Derived.Test.YtiiegpklpmogmaaGreatDoorSt15
import Derived.Test.YtiiegpklpmogmaaGreatDoorStPlain5
set_option linter.unusedVariables false
set_option linter.unusedSimpArgs false
namespace Go.Proofs.YtiiegpklpmogmaaGreatDoor
open Go.RowKit Go.Sort

theorem text_5_0_12 : textV ⟨5, 0, 12⟩ 3 = [53, 46, 48, 46, 49, 50] := by
  simp [textV, nums, decI, Lib.decDigits, Lib.join, List.intercalate]
theorem text_7_1 : textV ⟨7, 1, 0⟩ 2 = [55, 46, 49] := by
  simp [textV, nums, decI, Lib.decDigits, Lib.join, List.intercalate]
theorem parse_7_1 : parseV ⟨#[55, 46, 49]⟩ 2 = (⟨7, 1, 0⟩, 0) := by
  have := parse_text (t := ⟨7, 1, 0⟩) (n := 2) (by unfold Tm.ok; simp) (by omega) (by omega) (by simp [fitsV])
  rw [show ((2 : Int).toNat) = 2 from rfl, text_7_1] at this
  exact this
theorem front_2_13 : frontV [⟨2, 0, 0⟩, ⟨1, 3, 0⟩] = [⟨1, 3, 0⟩, ⟨2, 0, 0⟩] := by decide

theorem Blk.new' {w : World} {cs : Array Value} {t k : Nat} (h : k = w.heap.size) : Blk (w.alloc (.cells cs t)) k cs t := h ▸ Blk.new w cs t
theorem rd_blk {W : World} {b : Nat} {ts : List Tm} {cs : Array Value} (hb : Blk W b cs 25) (h : ts.length ≤ 1000) (hc : cs.toList = ts.flatMap tmCells) : Rd tmR W (fun k => k = b) (some ⟨b, 0, none⟩) ts.length ts.length ts := by
  refine ⟨rfl, Nat.le_refl _, by unfold maxLen; omega, fun _ => ⟨b, 0, cs, 25, (0, 0), rfl, rfl, hb, fun i x hx => ⟨tmCells x, rfl, fun j v hv => ?_⟩⟩⟩
  have := flat_get tmCells 3 (fun _ => rfl) ts i x hx j v hv
  rw [← hc] at this
  rw [Nat.zero_add, ← Array.getElem?_toList]
  exact this

theorem t512_at (w : World) (hg : Glob w) : Calls Tryz.prog 53 #[.agg #[.int .u64 5, .int .u64 0, .int .u64 12], .int .i64 3] w fun e w' => e = .returned (.tuple #[.string ⟨#[53, 46, 48, 46, 49, 50]⟩, .int .i64 0]) ∧ Below w.heap.size w w' := by
  have h := text_good ⟨5, 0, 12⟩ 3 w hg (by unfold Tm.ok; simp) (by omega) (by omega) (by simp [fitsV])
  rw [text_5_0_12] at h
  exact h
theorem p71_at (w : World) (hg : Glob w) : Calls Tryz.prog 54 #[.string ⟨#[55, 46, 49]⟩, .int .i64 2] w fun e w' => e = .returned (.tuple #[.agg #[.int .u64 7, .int .u64 1, .int .u64 0], .int .i64 0]) ∧ Below w.heap.size w w' := by
  have h := parse_at ⟨#[55, 46, 49]⟩ 2 w hg (by decide)
  rw [parse_7_1] at h
  exact h
theorem a71_at (w : World) : Calls Tryz.prog 21 #[.agg #[.int .u64 7, .int .u64 1, .int .u64 0], .agg #[.int .u64 7, .int .u64 1, .int .u64 0]] w fun e w' => e = .returned (.bool true) ∧ Below w.heap.size w w' := by
  have h := ahead_at ⟨7, 1, 0⟩ ⟨7, 1, 0⟩ w
  rw [ahead_refl] at h
  exact h
theorem f71_at (w : World) : Calls Tryz.prog 29 #[.agg #[.int .u64 7, .int .u64 1, .int .u64 0], .int .i64 1] w fun e w' => e = .returned (.int .i64 10) ∧ Below w.heap.size w w' := by
  have h := fits_any 7 1 0 1 w
  rw [show fitsV 7 1 0 1 = 10 by simp [fitsV]] at h
  exact h
theorem fr_at (W : World) (b : Nat) (hb : Blk W b #[.int .u64 2, .int .u64 0, .int .u64 0, .int .u64 1, .int .u64 3, .int .u64 0] 25) : Calls Tryz.prog 15 #[.slice (some ⟨b, 0, none⟩) 2 2] W fun e w' =>
    ∃ g c, e = .returned (.slice (some ⟨g, 0, none⟩) 2 c) ∧ w'.cell? ⟨g, 0, none⟩ = some (.int .u64 1) ∧ w'.cell? ⟨g, 1, none⟩ = some (.int .u64 3) ∧ w'.cell? ⟨g, 2, none⟩ = some (.int .u64 0) ∧ g < w'.heap.size ∧ Below W.heap.size W w' := by
  have h := front_at _ 2 2 [⟨2, 0, 0⟩, ⟨1, 3, 0⟩] _ _ (rd_blk (ts := [⟨2, 0, 0⟩, ⟨1, 3, 0⟩]) hb (by decide) rfl) (by omega)
  rw [front_2_13] at h
  refine h.mono ?_
  rintro e w' ⟨A, c, rfl, hown, hb⟩
  rcases hown.2 with ⟨_, h0⟩ | ⟨g, cap, cur, he, _, hg, _⟩
  · exact absurd h0 (by decide)
  · injection he with he _ _
    subst he
    have hc : ∀ j : Nat, j < 6 → w'.cell? ⟨g, j, none⟩ = _ := fun j hj => hown.cellAt j hj
    exact ⟨g, c, rfl, hc 0 (by omega), hc 1 (by omega), hc 2 (by omega), (Array.getElem?_eq_some_iff.1 hg).1, hb⟩

set_option maxHeartbeats 1000000 in
set_option maxRecDepth 8000 in
theorem taken_at (w : World) (hg : Glob w) :
    Calls Tryz.prog 12 #[] w fun e w' => e = .returned (.bool true) ∧ Below w.heap.size w w' := by
  have HG := Lib.hid hg
  clear hg
  have he1 := fun W => tm_eql ⟨7, 1, 0⟩ ⟨7, 1, 0⟩ W
  have he2 := fun W => tm_eql ⟨1, 3, 0⟩ ⟨1, 3, 0⟩ W
  simp only [tmV, decide_true] at he1 he2
  have hg := tm_guard
  go_enter Tryz.func12, Tryz.ntmps12
  go_upto_region 4 with (first | (go_at_call 53; refine (t512_at _ HG.out).mono ?_; rintro e w1 ⟨rfl, hb1⟩) | (go_at_call 54; refine (p71_at _ (HG.out.below hb1)).mono ?_; rintro e w2 ⟨rfl, hb2⟩; have hz2 := hb2.size) | (go_at_call 15; refine (fr_at _ _ (Blk.new' (by simp))).mono ?_; rintro e w3 ⟨g3, c3, rfl, f0, f1, f2, hg3, hb3⟩))
  have hB3 := ((Blk.new w2 #[.int .u64 7, .int .u64 1, .int .u64 0] 25).alloc _).later hb3
  have b0 := hB3.cell 0 _ rfl
  have b1 := hB3.cell 1 _ rfl
  have b2 := hB3.cell 2 _ rfl
  have hbw : Below w.heap.size w w3 := Bel.step' (by (repeat first | exact Below.refl _ _ | assumption | refine Bel.alloc' ?_ _ | refine Bel.drewN ?_ _ | refine Below.drew ?_ | refine Bel.step' ?_ (by assumption))) hb3
  go_wp2_with (first | (go_at_call 21; refine (a71_at _).mono ?_; rintro e w4 ⟨rfl, hb4⟩; have hB4 := hB3.later hb4; have e0 := hB4.cell 0 _ rfl; have e1 := hB4.cell 1 _ rfl; have e2 := hB4.cell 2 _ rfl; clear hB4) | (go_at_call 29; refine (f71_at _).mono ?_; rintro e w5 ⟨rfl, hb5⟩))
  go_ret
  exact ⟨rfl, Bel.step' (Bel.step' hbw hb4) hb5⟩
end Go.Proofs.YtiiegpklpmogmaaGreatDoor
