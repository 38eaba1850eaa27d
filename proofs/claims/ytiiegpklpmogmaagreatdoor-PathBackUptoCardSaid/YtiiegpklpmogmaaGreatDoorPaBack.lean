/- PathBack, walked. -/
import Derived.Test.YtiiegpklpmogmaaGreatDoorPa6
set_option linter.unusedVariables false
set_option linter.unusedSimpArgs false
namespace Go.Proofs.YtiiegpklpmogmaaGreatDoor
open Go.RowKit Go.Sort

/-- What a call says of every later world. -/
def SaysFrom (w : World) (f : FuncId) (args : Array Value) (v : Value) : Prop := ∀ W, Below w.heap.size w W → Calls Tryz.prog f args W fun e w' => e = .returned v ∧ Below W.heap.size W w'
theorem SaysFrom.at {w : World} {f : FuncId} {args : Array Value} {v : Value} (h : SaysFrom w f args v) {W : World} (hW : Below w.heap.size w W) : Calls Tryz.prog f args W fun e w' => e = .returned v ∧ Below W.heap.size W w' := h W hW

/-- What the reading of a text says at another arity. -/
def ReadsAt (w : World) (a : ByteArray) (n k p0 p1 p2 : Int) : Prop := ∃ t0 t1 t2 g : Int, SaysFrom w 50 #[.string a, .int .i64 k] (.tuple #[.agg #[.int .u64 t0, .int .u64 t1, .int .u64 t2], .int .i64 g]) ∧ (k = n → t0 = p0 ∧ t1 = p1 ∧ t2 = p2 ∧ g = 0) ∧ (k ≠ n → (g == 0) = false)

set_option maxHeartbeats 4000000 in
set_option maxRecDepth 60000 in
theorem pback_walk (p0 p1 p2 n v : Int) (a s : ByteArray) (x0 x1 x2 g : Int) (w : World) (hg : Glob w)
    (HT : Hid (SaysFrom w 48 #[.agg #[.int .u64 p0, .int .u64 p1, .int .u64 p2], .int .i64 n] (.tuple #[.string a, .int .i64 v])))
    (HK : Hid (v = 0 → (n = 1 ∨ n = 2 ∨ n = 3) ∧ ∀ k : Int, 1 ≤ k → k ≤ 3 → ReadsAt w a n k p0 p1 p2))
    (HP : Hid (SaysFrom w 50 #[.string s, .int .i64 n] (.tuple #[.agg #[.int .u64 x0, .int .u64 x1, .int .u64 x2], .int .i64 g])))
    (HB : Hid (g = 0 → SaysFrom w 48 #[.agg #[.int .u64 x0, .int .u64 x1, .int .u64 x2], .int .i64 n] (.tuple #[.string s, .int .i64 0]) ∧ SaysFrom w 41 #[.agg #[.int .u64 x0, .int .u64 x1, .int .u64 x2], .int .i64 n] (.int .i64 0)))
    (HN : Hid (g ≠ 0 → x0 = 0 ∧ x1 = 0 ∧ x2 = 0))
    (nP : Hid (∀ W, (binOp .neq 40 (.agg #[.int .u64 p0, .int .u64 p1, .int .u64 p2]) (.agg #[.int .u64 p0, .int .u64 p1, .int .u64 p2])).run Tryz.prog W = .ok (.bool false) W))
    (e0 : Hid (∀ W, (binOp .eql 40 (.agg #[.int .u64 0, .int .u64 0, .int .u64 0]) (.agg #[.int .u64 0, .int .u64 0, .int .u64 0])).run Tryz.prog W = .ok (.bool true) W)) :
    Calls Tryz.prog 11 #[.agg #[.int .u64 p0, .int .u64 p1, .int .u64 p2], .int .i64 n, .string s] w fun e w' => e = .returned (.bool true) ∧ Below w.heap.size w w' := by
  have HG := Lib.hid hg
  clear hg
  have hgp := pt_guard
  go_enter Tryz.func11, Tryz.ntmps11
  go_upto_region 2 with (go_at_call 48; refine (HT.out.at (by (repeat first | exact Below.refl _ _ | assumption | refine Bel.alloc' ?_ _ | refine Bel.drewN ?_ _ | refine Below.drew ?_ | refine Bel.step' ?_ (by assumption)))).mono ?_; rintro e w1 ⟨rfl, hb1⟩)
  have kP := (Blk.new w #[.int .u64 p0, .int .u64 p1, .int .u64 p2] 40).later hb1
  have hbw : Below w.heap.size w w1 := Bel.step' (by (repeat first | exact Below.refl _ _ | assumption | refine Bel.alloc' ?_ _ | refine Bel.drewN ?_ _ | refine Below.drew ?_ | refine Bel.step' ?_ (by assumption))) hb1
  clear hb1
  go_upto_if 23 with fail
  go_cut [9] (fun s9 wc => Blk wc w.heap.size #[.int .u64 p0, .int .u64 p1, .int .u64 p2] 40 ∧ Below w.heap.size w wc)
  case first => as_aux_lemma =>
    by_cases hv : v = 0
    · subst hv
      obtain ⟨hn, hk⟩ := HK.out rfl
      clear HK
      have HK := Lib.hid hk
      clear hk HP HB HN HT e0
      go_wp2_with fail
      refine wp_loop_rounds 4 ?_
      rcases hn with rfl | rfl | rfl
      · (rw [rounds_succ]; obtain ⟨t0, t1, t2, g', hs, h1, h2⟩ := (HK.out 1 (by omega) (by omega)); have HS := Lib.hid hs; obtain ⟨rfl, rfl, rfl, rfl⟩ := h1 rfl; clear hs h1 h2; have hnP := nP.out; (have c0P := kP.cell 0 _ rfl; have c1P := kP.cell 1 _ rfl; have c2P := kP.cell 2 _ rfl; go_wp2_with (go_at_call 50; refine (HS.out.at hbw).mono ?_; rintro e w2 ⟨rfl, hb2⟩; have hb2' := hb2.alloc hb2.size (.cells #[.int .u64 t0, .int .u64 t1, .int .u64 t2] 40); have kX := Blk.new w2 #[.int .u64 t0, .int .u64 t1, .int .u64 t2] 40; replace kP := kP.later hb2'; replace hbw := Bel.step' hbw hb2'; clear c0P c1P c2P; have c0P := kP.cell 0 _ rfl; have c1P := kP.cell 1 _ rfl; have c2P := kP.cell 2 _ rfl; have c0X := kX.cell 0 _ rfl; have c1X := kX.cell 1 _ rfl; have c2X := kX.cell 2 _ rfl); clear c0P c1P c2P c0X c1X c2X kX hb2 hb2' HS); clear hnP)
        (rw [rounds_succ]; obtain ⟨t0, t1, t2, g', hs, h1, h2⟩ := (HK.out 2 (by omega) (by omega)); have HS := Lib.hid hs; have h3 := h2 (by omega); clear hs h1 h2; (have c0P := kP.cell 0 _ rfl; have c1P := kP.cell 1 _ rfl; have c2P := kP.cell 2 _ rfl; go_wp2_with (go_at_call 50; refine (HS.out.at hbw).mono ?_; rintro e w2 ⟨rfl, hb2⟩; have hb2' := hb2.alloc hb2.size (.cells #[.int .u64 t0, .int .u64 t1, .int .u64 t2] 40); have kX := Blk.new w2 #[.int .u64 t0, .int .u64 t1, .int .u64 t2] 40; replace kP := kP.later hb2'; replace hbw := Bel.step' hbw hb2'; clear c0P c1P c2P; have c0P := kP.cell 0 _ rfl; have c1P := kP.cell 1 _ rfl; have c2P := kP.cell 2 _ rfl; have c0X := kX.cell 0 _ rfl; have c1X := kX.cell 1 _ rfl; have c2X := kX.cell 2 _ rfl); clear c0P c1P c2P c0X c1X c2X kX hb2 hb2' HS); clear h3)
        (rw [rounds_succ]; obtain ⟨t0, t1, t2, g', hs, h1, h2⟩ := (HK.out 3 (by omega) (by omega)); have HS := Lib.hid hs; have h3 := h2 (by omega); clear hs h1 h2; (have c0P := kP.cell 0 _ rfl; have c1P := kP.cell 1 _ rfl; have c2P := kP.cell 2 _ rfl; go_wp2_with (go_at_call 50; refine (HS.out.at hbw).mono ?_; rintro e w2 ⟨rfl, hb2⟩; have hb2' := hb2.alloc hb2.size (.cells #[.int .u64 t0, .int .u64 t1, .int .u64 t2] 40); have kX := Blk.new w2 #[.int .u64 t0, .int .u64 t1, .int .u64 t2] 40; replace kP := kP.later hb2'; replace hbw := Bel.step' hbw hb2'; clear c0P c1P c2P; have c0P := kP.cell 0 _ rfl; have c1P := kP.cell 1 _ rfl; have c2P := kP.cell 2 _ rfl; have c0X := kX.cell 0 _ rfl; have c1X := kX.cell 1 _ rfl; have c2X := kX.cell 2 _ rfl); clear c0P c1P c2P c0X c1X c2X kX hb2 hb2' HS); clear h3)
        (rw [rounds_succ]; go_wp2_with fail; go_meet; exact ⟨kP, hbw⟩)
      · (rw [rounds_succ]; obtain ⟨t0, t1, t2, g', hs, h1, h2⟩ := (HK.out 1 (by omega) (by omega)); have HS := Lib.hid hs; have h3 := h2 (by omega); clear hs h1 h2; (have c0P := kP.cell 0 _ rfl; have c1P := kP.cell 1 _ rfl; have c2P := kP.cell 2 _ rfl; go_wp2_with (go_at_call 50; refine (HS.out.at hbw).mono ?_; rintro e w2 ⟨rfl, hb2⟩; have hb2' := hb2.alloc hb2.size (.cells #[.int .u64 t0, .int .u64 t1, .int .u64 t2] 40); have kX := Blk.new w2 #[.int .u64 t0, .int .u64 t1, .int .u64 t2] 40; replace kP := kP.later hb2'; replace hbw := Bel.step' hbw hb2'; clear c0P c1P c2P; have c0P := kP.cell 0 _ rfl; have c1P := kP.cell 1 _ rfl; have c2P := kP.cell 2 _ rfl; have c0X := kX.cell 0 _ rfl; have c1X := kX.cell 1 _ rfl; have c2X := kX.cell 2 _ rfl); clear c0P c1P c2P c0X c1X c2X kX hb2 hb2' HS); clear h3)
        (rw [rounds_succ]; obtain ⟨t0, t1, t2, g', hs, h1, h2⟩ := (HK.out 2 (by omega) (by omega)); have HS := Lib.hid hs; obtain ⟨rfl, rfl, rfl, rfl⟩ := h1 rfl; clear hs h1 h2; have hnP := nP.out; (have c0P := kP.cell 0 _ rfl; have c1P := kP.cell 1 _ rfl; have c2P := kP.cell 2 _ rfl; go_wp2_with (go_at_call 50; refine (HS.out.at hbw).mono ?_; rintro e w2 ⟨rfl, hb2⟩; have hb2' := hb2.alloc hb2.size (.cells #[.int .u64 t0, .int .u64 t1, .int .u64 t2] 40); have kX := Blk.new w2 #[.int .u64 t0, .int .u64 t1, .int .u64 t2] 40; replace kP := kP.later hb2'; replace hbw := Bel.step' hbw hb2'; clear c0P c1P c2P; have c0P := kP.cell 0 _ rfl; have c1P := kP.cell 1 _ rfl; have c2P := kP.cell 2 _ rfl; have c0X := kX.cell 0 _ rfl; have c1X := kX.cell 1 _ rfl; have c2X := kX.cell 2 _ rfl); clear c0P c1P c2P c0X c1X c2X kX hb2 hb2' HS); clear hnP)
        (rw [rounds_succ]; obtain ⟨t0, t1, t2, g', hs, h1, h2⟩ := (HK.out 3 (by omega) (by omega)); have HS := Lib.hid hs; have h3 := h2 (by omega); clear hs h1 h2; (have c0P := kP.cell 0 _ rfl; have c1P := kP.cell 1 _ rfl; have c2P := kP.cell 2 _ rfl; go_wp2_with (go_at_call 50; refine (HS.out.at hbw).mono ?_; rintro e w2 ⟨rfl, hb2⟩; have hb2' := hb2.alloc hb2.size (.cells #[.int .u64 t0, .int .u64 t1, .int .u64 t2] 40); have kX := Blk.new w2 #[.int .u64 t0, .int .u64 t1, .int .u64 t2] 40; replace kP := kP.later hb2'; replace hbw := Bel.step' hbw hb2'; clear c0P c1P c2P; have c0P := kP.cell 0 _ rfl; have c1P := kP.cell 1 _ rfl; have c2P := kP.cell 2 _ rfl; have c0X := kX.cell 0 _ rfl; have c1X := kX.cell 1 _ rfl; have c2X := kX.cell 2 _ rfl); clear c0P c1P c2P c0X c1X c2X kX hb2 hb2' HS); clear h3)
        (rw [rounds_succ]; go_wp2_with fail; go_meet; exact ⟨kP, hbw⟩)
      · (rw [rounds_succ]; obtain ⟨t0, t1, t2, g', hs, h1, h2⟩ := (HK.out 1 (by omega) (by omega)); have HS := Lib.hid hs; have h3 := h2 (by omega); clear hs h1 h2; (have c0P := kP.cell 0 _ rfl; have c1P := kP.cell 1 _ rfl; have c2P := kP.cell 2 _ rfl; go_wp2_with (go_at_call 50; refine (HS.out.at hbw).mono ?_; rintro e w2 ⟨rfl, hb2⟩; have hb2' := hb2.alloc hb2.size (.cells #[.int .u64 t0, .int .u64 t1, .int .u64 t2] 40); have kX := Blk.new w2 #[.int .u64 t0, .int .u64 t1, .int .u64 t2] 40; replace kP := kP.later hb2'; replace hbw := Bel.step' hbw hb2'; clear c0P c1P c2P; have c0P := kP.cell 0 _ rfl; have c1P := kP.cell 1 _ rfl; have c2P := kP.cell 2 _ rfl; have c0X := kX.cell 0 _ rfl; have c1X := kX.cell 1 _ rfl; have c2X := kX.cell 2 _ rfl); clear c0P c1P c2P c0X c1X c2X kX hb2 hb2' HS); clear h3)
        (rw [rounds_succ]; obtain ⟨t0, t1, t2, g', hs, h1, h2⟩ := (HK.out 2 (by omega) (by omega)); have HS := Lib.hid hs; have h3 := h2 (by omega); clear hs h1 h2; (have c0P := kP.cell 0 _ rfl; have c1P := kP.cell 1 _ rfl; have c2P := kP.cell 2 _ rfl; go_wp2_with (go_at_call 50; refine (HS.out.at hbw).mono ?_; rintro e w2 ⟨rfl, hb2⟩; have hb2' := hb2.alloc hb2.size (.cells #[.int .u64 t0, .int .u64 t1, .int .u64 t2] 40); have kX := Blk.new w2 #[.int .u64 t0, .int .u64 t1, .int .u64 t2] 40; replace kP := kP.later hb2'; replace hbw := Bel.step' hbw hb2'; clear c0P c1P c2P; have c0P := kP.cell 0 _ rfl; have c1P := kP.cell 1 _ rfl; have c2P := kP.cell 2 _ rfl; have c0X := kX.cell 0 _ rfl; have c1X := kX.cell 1 _ rfl; have c2X := kX.cell 2 _ rfl); clear c0P c1P c2P c0X c1X c2X kX hb2 hb2' HS); clear h3)
        (rw [rounds_succ]; obtain ⟨t0, t1, t2, g', hs, h1, h2⟩ := (HK.out 3 (by omega) (by omega)); have HS := Lib.hid hs; obtain ⟨rfl, rfl, rfl, rfl⟩ := h1 rfl; clear hs h1 h2; have hnP := nP.out; (have c0P := kP.cell 0 _ rfl; have c1P := kP.cell 1 _ rfl; have c2P := kP.cell 2 _ rfl; go_wp2_with (go_at_call 50; refine (HS.out.at hbw).mono ?_; rintro e w2 ⟨rfl, hb2⟩; have hb2' := hb2.alloc hb2.size (.cells #[.int .u64 t0, .int .u64 t1, .int .u64 t2] 40); have kX := Blk.new w2 #[.int .u64 t0, .int .u64 t1, .int .u64 t2] 40; replace kP := kP.later hb2'; replace hbw := Bel.step' hbw hb2'; clear c0P c1P c2P; have c0P := kP.cell 0 _ rfl; have c1P := kP.cell 1 _ rfl; have c2P := kP.cell 2 _ rfl; have c0X := kX.cell 0 _ rfl; have c1X := kX.cell 1 _ rfl; have c2X := kX.cell 2 _ rfl); clear c0P c1P c2P c0X c1X c2X kX hb2 hb2' HS); clear hnP)
        (rw [rounds_succ]; go_wp2_with fail; go_meet; exact ⟨kP, hbw⟩)
    · have tv : (v == 0) = false := by simpa using hv
      clear HK HP HB HN HT nP e0
      go_wp2_with fail
      go_meet
      exact ⟨kP, hbw⟩
  case rest => as_aux_lemma =>
    obtain ⟨kP, hbw⟩ := hcut
    clear HT HK nP
    go_upto_region 10 with (go_at_call 50; refine (HP.out.at hbw).mono ?_; rintro e w2 ⟨rfl, hb2⟩)
    have hbw2 : Below w.heap.size w (w2.alloc (.cells #[.int .u64 x0, .int .u64 x1, .int .u64 x2] 40)) := Bel.step' hbw (hb2.alloc hb2.size _)
    have kX := Blk.new w2 #[.int .u64 x0, .int .u64 x1, .int .u64 x2] 40
    clear hb2 kP hbw
    generalize w2.heap.size = bx at *
    generalize w2.alloc (.cells #[.int .u64 x0, .int .u64 x1, .int .u64 x2] 40) = wz at *
    by_cases hz : g = 0
    · subst hz
      obtain ⟨hT2, hF2⟩ := HB.out rfl
      have HT2 := Lib.hid hT2
      have HF2 := Lib.hid hF2
      have es : (s.toList == s.toList) = true := by simp
      clear hT2 hF2 HB HN HP
      have c0X := kX.cell 0 _ rfl
      have c1X := kX.cell 1 _ rfl
      have c2X := kX.cell 2 _ rfl
      go_wp2_with (first
        | (go_at_call 48; refine (HT2.out.at hbw2).mono ?_; rintro e w3 ⟨rfl, hb3⟩; have hbw3 := Bel.step' hbw2 hb3; have kX3 := kX.later hb3)
        | (go_at_call 40; refine (known_at _ (HG.out.below hbw3)).mono ?_; rintro e w4 ⟨rfl, hb4⟩; have hbw4 := Bel.step' hbw3 hb4; have kX4 := kX3.later hb4; have d0X := kX4.cell 0 _ rfl; have d1X := kX4.cell 1 _ rfl; have d2X := kX4.cell 2 _ rfl)
        | (go_at_call 41; refine (HF2.out.at hbw4).mono ?_; rintro e w5 ⟨rfl, hb5⟩; have hbw5 := Bel.step' hbw4 hb5))
      go_ret
      exact ⟨rfl, hbw5⟩
    · obtain ⟨rfl, rfl, rfl⟩ := HN.out hz
      have tg : (g != 0) = true := by simpa using hz
      have he0 := e0.out
      clear HB HN HP hz
      go_wp2_with (go_at_call 40; refine (known_at _ (HG.out.below hbw2)).mono ?_; rintro e w4 ⟨rfl, hb4⟩; have hbw4 := Bel.step' hbw2 hb4; have kX4 := kX.later hb4; have d0X := kX4.cell 0 _ rfl; have d1X := kX4.cell 1 _ rfl; have d2X := kX4.cell 2 _ rfl)
      go_ret
      exact ⟨rfl, hbw4⟩
end Go.Proofs.YtiiegpklpmogmaaGreatDoor
