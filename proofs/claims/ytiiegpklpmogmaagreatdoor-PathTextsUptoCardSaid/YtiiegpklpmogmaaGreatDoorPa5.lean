/- The examples of the law on paths, walked. -/
import Derived.Test.YtiiegpklpmogmaaGreatDoorPa4
set_option linter.unusedVariables false
set_option linter.unusedSimpArgs false
namespace Go.Proofs.YtiiegpklpmogmaaGreatDoor
open Go.RowKit Go.Sort

theorem ptext_7 : pTextV ⟨7, 0, 0⟩ 2 = [43, 55, 44, 48] := by
  unfold pTextV
  rw [show textV ⟨7, 0, 0⟩ 2 = [55, 46, 48] by simp [textV, nums, decI, Lib.decDigits, Lib.join, List.intercalate]]
  rfl
theorem pparse_7 : pParseV ⟨#[43, 55, 44, 48]⟩ 2 = (⟨7, 0, 0⟩, 0) := by
  have := pparse_text (t := ⟨7, 0, 0⟩) (n := 2) (by unfold Tm.ok; simp) (by omega) (by omega) (by simp [fitsV])
  rw [show ((2 : Int).toNat) = 2 from rfl, ptext_7] at this
  exact this
theorem least_3 : leastV [⟨2, 0, 0⟩, ⟨0, 1, 0⟩, ⟨2, 1, 0⟩] = [⟨0, 1, 0⟩, ⟨2, 0, 0⟩] := by decide

theorem kn_then1 (w : World) : Calls Tryz.prog 31 #[.agg #[.int .u64 1, .int .u64 2, .int .u64 3], .agg #[.int .u64 4, .int .u64 0, .int .u64 18446744073709551612]] w fun e w' => e = .returned (.tuple #[.agg #[.int .u64 5, .int .u64 2, .int .u64 18446744073709551615], .bool true]) ∧ Below w.heap.size w w' := by
  have h := then_at ⟨1, 2, 3⟩ ⟨4, 0, 18446744073709551612⟩ (by unfold Tm.ok; simp) (by unfold Tm.ok; simp) w
  have e : fitsB ⟨1, 2, 3⟩ ⟨4, 0, 18446744073709551612⟩ = true := by rw [fitsB_iff]; simp only [M64]; omega
  rw [sum_good e, e] at h
  exact h
theorem kn_then2 (w : World) : Calls Tryz.prog 31 #[.agg #[.int .u64 1, .int .u64 0, .int .u64 0], .agg #[.int .u64 18446744073709551615, .int .u64 0, .int .u64 0]] w fun e w' => e = .returned (.tuple #[.agg #[.int .u64 0, .int .u64 0, .int .u64 0], .bool false]) ∧ Below w.heap.size w w' := by
  have h := then_at ⟨1, 0, 0⟩ ⟨18446744073709551615, 0, 0⟩ (by unfold Tm.ok; simp) (by unfold Tm.ok; simp) w
  have e : fitsB ⟨1, 0, 0⟩ ⟨18446744073709551615, 0, 0⟩ = false := by
    rw [Bool.eq_false_iff]
    intro hh
    have := (fitsB_iff _ _).1 hh
    simp only [M64] at this
    omega
  rw [show sumT ⟨1, 0, 0⟩ ⟨18446744073709551615, 0, 0⟩ = tm0 by unfold sumT; rw [e]; rfl, e] at h
  exact h
theorem kn_on (w : World) : Calls Tryz.prog 33 #[.agg #[.int .u64 1, .int .u64 0, .int .u64 0], .agg #[.int .u64 4, .int .u64 18446744073709551615, .int .u64 0]] w fun e w' => e = .returned (.tuple #[.agg #[.int .u64 5, .int .u64 18446744073709551615, .int .u64 0], .bool true]) ∧ Below w.heap.size w w' := by
  have h := on_at ⟨1, 0, 0⟩ ⟨4, 18446744073709551615, 0⟩ (by unfold Tm.ok; simp) (by unfold Tm.ok; simp) w
  have e : fitsB ⟨1, 0, 0⟩ ⟨4, 18446744073709551615, 0⟩ = true := by rw [fitsB_iff]; simp only [M64]; omega
  rw [sum_good e, e] at h
  exact h
theorem kn_text (w : World) (hg : Glob w) : Calls Tryz.prog 48 #[.agg #[.int .u64 7, .int .u64 0, .int .u64 0], .int .i64 2] w fun e w' => e = .returned (.tuple #[.string ⟨#[43, 55, 44, 48]⟩, .int .i64 0]) ∧ Below w.heap.size w w' := by
  have h := ptext_good ⟨7, 0, 0⟩ 2 w hg (by unfold Tm.ok; simp) (by omega) (by omega) (by simp [fitsV])
  rw [ptext_7] at h
  exact h
theorem kn_parse (w : World) (hg : Glob w) : Calls Tryz.prog 50 #[.string ⟨#[43, 55, 44, 48]⟩, .int .i64 2] w fun e w' => e = .returned (.tuple #[.agg #[.int .u64 7, .int .u64 0, .int .u64 0], .int .i64 0]) ∧ Below w.heap.size w w' := by
  have h := pparse_at ⟨#[43, 55, 44, 48]⟩ 2 w hg (by decide)
  rw [pparse_7] at h
  exact h
theorem kn_adv (w : World) : Calls Tryz.prog 39 #[.agg #[.int .u64 5, .int .u64 2, .int .u64 18446744073709551615]] w fun e w' => e = .returned (.bool true) ∧ Below w.heap.size w w' := advances_at ⟨5, 2, 18446744073709551615⟩ w
theorem kn_ahead (w : World) : Calls Tryz.prog 35 #[.agg #[.int .u64 0, .int .u64 0, .int .u64 0], .agg #[.int .u64 5, .int .u64 2, .int .u64 18446744073709551615]] w fun e w' => e = .returned (.bool true) ∧ Below w.heap.size w w' := by
  have h := pahead_at ⟨0, 0, 0⟩ ⟨5, 2, 18446744073709551615⟩ w
  rw [show aheadB ⟨0, 0, 0⟩ ⟨5, 2, 18446744073709551615⟩ = true by simp [aheadB]] at h
  exact h
theorem kn_cmp (w : World) : Calls Tryz.prog 37 #[.agg #[.int .u64 1, .int .u64 0, .int .u64 0], .agg #[.int .u64 0, .int .u64 0, .int .u64 0]] w fun e w' => e = .returned (.int .i64 1) ∧ Below w.heap.size w w' := pcompare_at ⟨1, 0, 0⟩ ⟨0, 0, 0⟩ w
theorem kn_fits (w : World) : Calls Tryz.prog 41 #[.agg #[.int .u64 5, .int .u64 2, .int .u64 18446744073709551615], .int .i64 1] w fun e w' => e = .returned (.int .i64 10) ∧ Below w.heap.size w w' := pfits_at 5 2 18446744073709551615 1 w

theorem rd_pblk {W : World} {b : Nat} {ts : List Tm} {cs : Array Value} (hb : Blk W b cs 40) (h : ts.length ≤ 1000) (hc : cs.toList = ts.flatMap tmCells) : Rd tmR W (fun k => k = b) (some ⟨b, 0, none⟩) ts.length ts.length ts := by
  refine ⟨rfl, Nat.le_refl _, by unfold maxLen; omega, fun _ => ⟨b, 0, cs, 40, (0, 0), rfl, rfl, hb, fun i x hx => ⟨tmCells x, rfl, fun j v hv => ?_⟩⟩⟩
  have := flat_get tmCells 3 (fun _ => rfl) ts i x hx j v hv
  rw [← hc] at this
  rw [Nat.zero_add, ← Array.getElem?_toList]
  exact this
theorem kn_least (W : World) (b : Nat) (hb : Blk W b #[.int .u64 2, .int .u64 0, .int .u64 0, .int .u64 0, .int .u64 1, .int .u64 0, .int .u64 2, .int .u64 1, .int .u64 0] 40) : Calls Tryz.prog 45 #[.slice (some ⟨b, 0, none⟩) 3 3] W fun e w' =>
    ∃ g c, e = .returned (.slice (some ⟨g, 0, none⟩) 2 c) ∧ w'.cell? ⟨g, 0, none⟩ = some (.int .u64 0) ∧ w'.cell? ⟨g, 1, none⟩ = some (.int .u64 1) ∧ w'.cell? ⟨g, 2, none⟩ = some (.int .u64 0) ∧ w'.cell? ⟨g, 3, none⟩ = some (.int .u64 2) ∧ w'.cell? ⟨g, 4, none⟩ = some (.int .u64 0) ∧ w'.cell? ⟨g, 5, none⟩ = some (.int .u64 0) ∧ g < w'.heap.size ∧ Below W.heap.size W w' := by
  have h := least_at _ 3 3 [⟨2, 0, 0⟩, ⟨0, 1, 0⟩, ⟨2, 1, 0⟩] _ _ (rd_pblk (ts := [⟨2, 0, 0⟩, ⟨0, 1, 0⟩, ⟨2, 1, 0⟩]) hb (by decide) rfl) (by omega)
  rw [least_3] at h
  refine h.mono ?_
  rintro e w' ⟨A, c, rfl, hown, hb⟩
  rcases hown.2 with ⟨_, h0⟩ | ⟨g, cap, cur, he, _, hg, _⟩
  · exact absurd h0 (by decide)
  · injection he with he _ _
    subst he
    have hc : ∀ j : Nat, j < 6 → w'.cell? ⟨g, j, none⟩ = _ := fun j hj => hown.cellAt j hj
    exact ⟨g, c, rfl, hc 0 (by omega), hc 1 (by omega), hc 2 (by omega), hc 3 (by omega), hc 4 (by omega), hc 5 (by omega), (Array.getElem?_eq_some_iff.1 hg).1, hb⟩

set_option maxHeartbeats 4000000 in
set_option maxRecDepth 60000 in
theorem known_at (w : World) (hg : Glob w) :
    Calls Tryz.prog 40 #[] w fun e w' => e = .returned (.bool true) ∧ Below w.heap.size w w' := by
  have HG := Lib.hid hg
  clear hg
  have he1 := fun W => pt_eql ⟨5, 2, 18446744073709551615⟩ ⟨5, 2, 18446744073709551615⟩ W
  have he2 := fun W => tm_eql ⟨5, 18446744073709551615, 0⟩ ⟨5, 18446744073709551615, 0⟩ W
  have he3 := fun W => pt_eql ⟨7, 0, 0⟩ ⟨7, 0, 0⟩ W
  have he4 := fun W => pt_eql ⟨0, 1, 0⟩ ⟨0, 1, 0⟩ W
  have he5 := fun W => pt_eql ⟨2, 0, 0⟩ ⟨2, 0, 0⟩ W
  simp only [tmV, decide_true] at he1 he2 he3 he4 he5
  have hg := tm_guard
  have hg' := pt_guard
  go_enter Tryz.func40, Tryz.ntmps40
  go_upto_region 7 with (first
    | (go_at_call 31; (with_reducible refine (kn_then1 _).mono ?_); rintro e w1 ⟨rfl, hb1⟩; have hP1 := Blk.new w1 #[.int .u64 5, .int .u64 2, .int .u64 18446744073709551615] 40)
    | (go_at_call 31; (with_reducible refine (kn_then2 _).mono ?_); rintro e w2 ⟨rfl, hb2⟩; have hP2 := hP1.later hb2; have hw2 : Below w.heap.size w w2 := Bel.step' (hb1.alloc hb1.size _) hb2)
    | (go_at_call 33; refine (kn_on _).mono ?_; rintro e w3 ⟨rfl, hb3⟩; have hP3 := (hP2.alloc (.cells #[.int .u64 0, .int .u64 0, .int .u64 0] 40)).later hb3; have hw3 : Below w.heap.size w w3 := Bel.step' (hw2.alloc hw2.size _) hb3; have hT3 := Blk.new w3 #[.int .u64 5, .int .u64 18446744073709551615, .int .u64 0] 25)
    | (go_at_call 48; refine (kn_text _ (HG.out.below (hw3.alloc hw3.size _))).mono ?_; rintro e w4 ⟨rfl, hb4⟩; have hP4 := (hP3.alloc (.cells #[.int .u64 5, .int .u64 18446744073709551615, .int .u64 0] 25)).later hb4; have hT4 := hT3.later hb4; have hw4 : Below w.heap.size w w4 := Bel.step' (hw3.alloc hw3.size _) hb4)
    | (go_at_call 50; refine (kn_parse _ (HG.out.below hw4)).mono ?_; rintro e w5 ⟨rfl, hb5⟩; have hP5 := hP4.later hb5; have hT5 := hT4.later hb5; have hw5 : Below w.heap.size w w5 := Bel.step' hw4 hb5; have hQ5 := Blk.new w5 #[.int .u64 7, .int .u64 0, .int .u64 0] 40)
    | (go_at_call 45; refine (kn_least _ _ (Blk.new' (by simp))).mono ?_; rintro e w6 ⟨g6, c6, rfl, l0, l1, l2, l3, l4, l5, hg6, hb6⟩))
  have hP6 := ((hP5.alloc (.cells #[.int .u64 7, .int .u64 0, .int .u64 0] 40)).alloc _).later hb6
  have hT6 := ((hT5.alloc (.cells #[.int .u64 7, .int .u64 0, .int .u64 0] 40)).alloc _).later hb6
  have hQ6 := (hQ5.alloc _).later hb6
  have hw6 : Below w.heap.size w w6 := Bel.step' ((hw5.alloc hw5.size _).alloc (by simp; have := hw5.size; omega) _) hb6
  have p0 := hP6.cell 0 _ rfl
  have p1 := hP6.cell 1 _ rfl
  have p2 := hP6.cell 2 _ rfl
  have t0 := hT6.cell 0 _ rfl
  have t1 := hT6.cell 1 _ rfl
  have t2 := hT6.cell 2 _ rfl
  have q0 := hQ6.cell 0 _ rfl
  have q1 := hQ6.cell 1 _ rfl
  have q2 := hQ6.cell 2 _ rfl
  have hpl := hP6.lt
  have htl := hT6.lt
  have hql := hQ6.lt
  clear hP1 hP2 hP3 hP4 hP5 hT3 hT4 hT5 hQ5 hb1 hb2 hb3 hb4 hb5 hb6 hw2 hw3 hw4 hw5
  go_wp2_with (first
    | (go_at_call 39; refine (kn_adv _).mono ?_; rintro e w7 ⟨rfl, hb7⟩; have hP7 := hP6.later hb7; have hw7 : Below w.heap.size w w7 := Bel.step' hw6 hb7; have u0 := hP7.cell 0 _ rfl; have u1 := hP7.cell 1 _ rfl; have u2 := hP7.cell 2 _ rfl)
    | (go_at_call 35; refine (kn_ahead _).mono ?_; rintro e w8 ⟨rfl, hb8⟩; have hP8 := hP7.later hb8; have hw8 : Below w.heap.size w w8 := Bel.step' hw7 hb8)
    | (go_at_call 37; refine (kn_cmp _).mono ?_; rintro e w9 ⟨rfl, hb9⟩; have hP9 := hP8.later hb9; have hw9 : Below w.heap.size w w9 := Bel.step' hw8 hb9; have v0 := hP9.cell 0 _ rfl; have v1 := hP9.cell 1 _ rfl; have v2 := hP9.cell 2 _ rfl)
    | (go_at_call 41; refine (kn_fits _).mono ?_; rintro e w10 ⟨rfl, hb10⟩; have hl7 : Below w6.heap.size w6 w10 := Bel.step' (Bel.step' (Bel.step' hb7 hb8) hb9) hb10; obtain ⟨hc10, _⟩ := Bel.cells hl7; have y0 := (hc10 _ _ hg6).trans l0; have y1 := (hc10 _ _ hg6).trans l1; have y2 := (hc10 _ _ hg6).trans l2; have y3 := (hc10 _ _ hg6).trans l3; have y4 := (hc10 _ _ hg6).trans l4; have y5 := (hc10 _ _ hg6).trans l5; clear hc10))
  go_ret
  exact ⟨rfl, Bel.step' hw9 hb10⟩
end Go.Proofs.YtiiegpklpmogmaaGreatDoor
