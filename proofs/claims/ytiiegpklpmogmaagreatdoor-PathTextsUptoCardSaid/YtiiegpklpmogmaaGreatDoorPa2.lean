/- path.Text, path.Parse, walked. -/
import Derived.Test.YtiiegpklpmogmaaGreatDoorPa1
import Derived.Test.YtiiegpklpmogmaaGreatDoorPaPlain2
set_option linter.unusedVariables false
set_option linter.unusedSimpArgs false
namespace Go.Proofs.YtiiegpklpmogmaaGreatDoor
open Go.RowKit

theorem countB_size (s : ByteArray) (c : UInt8) : Lib.countB s ⟨#[c]⟩ ≤ s.size := Lib.countB_le ⟨#[c]⟩ (by simp [ByteArray.size]) s.size s (Nat.le_refl _)
theorem replaceAll_at (a b : UInt8) (hab : a ≠ b) (s : ByteArray) (hs : s.size < 4294967281) (w : World) (hg : Glob w) :
    Calls Tryz.prog 79 #[.string s, .string ⟨#[a]⟩, .string ⟨#[b]⟩] w fun e w' => e = .returned (.string ⟨(repl a b s.data.toList).toArray⟩) ∧ Below w.heap.size w w' := by
  obtain ⟨m, hm⟩ := hg.len
  have h := Tryz.strings_ReplaceAll s ⟨#[a]⟩ ⟨#[b]⟩ m w hs hm (by simp [ByteArray.size]) (by
    have := countB_size s a
    have e : (⟨#[b]⟩ : ByteArray).size = 1 := rfl
    rw [e]; omega)
  rw [show (⟨#[a]⟩ : ByteArray).data.toList = [a] from rfl, show (⟨#[b]⟩ : ByteArray).data.toList = [b] from rfl, replaceAll_one a b hab] at h
  exact h

set_option maxHeartbeats 1000000 in
theorem ptext_bad (t : Tm) (n : Int) (w : World) (h : fitsV t.a t.b t.c n ≠ 0) :
    Calls Tryz.prog 48 #[tmV t, .int .i64 n] w fun e w' => e = .returned (.tuple #[.string ⟨#[]⟩, .int .i64 (fitsV t.a t.b t.c n)]) ∧ Below w.heap.size w w' := by
  have CT := Lib.hid (fun W => text_bad t n W h)
  have h1 : (fitsV t.a t.b t.c n != 0) = true := by simpa using h
  generalize fitsV t.a t.b t.c n = v at CT h1 ⊢
  clear h
  obtain ⟨a, b, c⟩ := t
  simp only [tmV] at CT ⊢
  go_enter Tryz.func48, Tryz.ntmps48
  go_wp2_with (go_at_call 53; refine (CT.out _).mono ?_; rintro e w1 ⟨rfl, hb1⟩)
  go_ret2
  exact ⟨rfl, by (repeat first | exact Below.refl _ _ | assumption | refine Bel.alloc' ?_ _ | refine Bel.drewN ?_ _ | refine Below.drew ?_ | refine Bel.step' ?_ (by assumption))⟩

theorem plus_app (s : List UInt8) : ((⟨#[43]⟩ : ByteArray) ++ ⟨s.toArray⟩) = ⟨(43 :: s).toArray⟩ := ba_app [43] s

set_option maxHeartbeats 1000000 in
theorem ptext_good (t : Tm) (n : Nat) (w : World) (hg : Glob w) (hok : t.ok) (hn1 : 1 ≤ n) (hn3 : n ≤ 3) (h : fitsV t.a t.b t.c n = 0) :
    Calls Tryz.prog 48 #[tmV t, .int .i64 n] w fun e w' => e = .returned (.tuple #[.string ⟨(pTextV t n).toArray⟩, .int .i64 0]) ∧ Below w.heap.size w w' := by
  have CT := Lib.hid (fun W (hW : Below w.heap.size w W) => text_good t n W (hg.below hW) hok hn1 hn3 h)
  have hl := textV_length t n hok hn3
  have CR := Lib.hid (fun W (hW : Below w.heap.size w W) => replaceAll_at 46 44 (by decide) ⟨(textV t n).toArray⟩ (by show (textV t n).toArray.size < _; simp; omega) W (hg.below hW))
  rw [show (⟨(textV t n).toArray⟩ : ByteArray).data.toList = textV t n from rfl] at CR
  have hr := repl_length 46 44 (textV t n)
  have e : (⟨(pTextV t n).toArray⟩ : ByteArray) = (⟨#[43]⟩ : ByteArray) ++ ⟨(repl 46 44 (textV t n)).toArray⟩ := (plus_app _).symm
  rw [e]
  clear e hg hok h
  generalize repl 46 44 (textV t n) = x at *
  generalize textV t n = s at *
  have hno : ¬ 9223372036854775807 < 1 + x.length := by omega
  clear hl hr
  obtain ⟨a, b, c⟩ := t
  simp only [tmV] at CT ⊢
  go_enter Tryz.func48, Tryz.ntmps48
  go_wp2_with (first | (go_at_call 53; refine (CT.out _ (by (repeat first | exact Below.refl _ _ | assumption | refine Bel.alloc' ?_ _ | refine Bel.drewN ?_ _ | refine Below.drew ?_ | refine Bel.step' ?_ (by assumption)))).mono ?_; rintro e w1 ⟨rfl, hb1⟩; have hbw : Below w.heap.size w w1 := Bel.step' (by (repeat first | exact Below.refl _ _ | assumption | refine Bel.alloc' ?_ _ | refine Bel.drewN ?_ _ | refine Below.drew ?_ | refine Bel.step' ?_ (by assumption))) hb1) | (go_at_call 79; refine (CR.out _ hbw).mono ?_; rintro e w2 ⟨rfl, hb2⟩))
  go_ret2
  exact ⟨rfl, Bel.step' hbw hb2⟩

set_option maxHeartbeats 2000000 in
theorem pparse_walk (s r : ByteArray) (x : ByteArray) (pl hv : Bool) (n t0 t1 t2 g : Int) (w : World)
    (CC : Hid (∀ W, Calls Tryz.prog 81 #[.string s, .string ⟨#[43]⟩] W fun e w' => e = .returned (.tuple #[.string r, .bool pl]) ∧ w' = W))
    (CN : Hid (∀ W, Calls Tryz.prog 82 #[.string r, .string ⟨#[46]⟩] W fun e w' => e = .returned (.bool hv) ∧ w' = W))
    (CR : Hid (∀ W, Below w.heap.size w W → Calls Tryz.prog 79 #[.string (cond (pl && !hv) r ⟨#[]⟩), .string ⟨#[44]⟩, .string ⟨#[46]⟩] W fun e w' => e = .returned (.string x) ∧ Below W.heap.size W w'))
    (CP : Hid (∀ W, Below w.heap.size w W → Calls Tryz.prog 54 #[.string x, .int .i64 n] W fun e w' => e = .returned (.tuple #[.agg #[.int .u64 t0, .int .u64 t1, .int .u64 t2], .int .i64 g]) ∧ Below W.heap.size W w')) :
    Calls Tryz.prog 50 #[.string s, .int .i64 n] w fun e w' => e = .returned (.tuple #[.agg #[.int .u64 t0, .int .u64 t1, .int .u64 t2], .int .i64 g]) ∧ Below w.heap.size w w' := by
  cases pl with
  | false =>
    simp only [Bool.false_and, cond_false] at CR
    (go_enter Tryz.func50, Tryz.ntmps50; go_upto_region 5 with (first | (go_at_call 81; refine (CC.out _).mono ?_; rintro e w1 ⟨rfl, rfl⟩) | (go_at_call 82; refine (CN.out _).mono ?_; rintro e w1 ⟨rfl, rfl⟩) | (go_at_call 79; refine (CR.out _ (by (repeat first | exact Below.refl _ _ | assumption | refine Bel.alloc' ?_ _ | refine Bel.drewN ?_ _ | refine Below.drew ?_ | refine Bel.step' ?_ (by assumption)))).mono ?_; rintro e w2 ⟨rfl, hb2⟩) | (go_at_call 54; refine (CP.out _ (Bel.step' (by (repeat first | exact Below.refl _ _ | assumption | refine Bel.alloc' ?_ _ | refine Bel.drewN ?_ _ | refine Below.drew ?_ | refine Bel.step' ?_ (by assumption))) hb2)).mono ?_; rintro e w3 ⟨rfl, hb3⟩)); have hz2 := hb2.size; have hz3 := hb3.size; simp at hz2; have hr0 : Blk (w.alloc (.cells #[.int .u64 0, .int .u64 0, .int .u64 0] 40)) w.heap.size #[.int .u64 0, .int .u64 0, .int .u64 0] 40 := Blk.new _ _ _; have hb4 := Bel.step' hb2 (hb3.alloc hb3.size (.cells #[.int .u64 t0, .int .u64 t1, .int .u64 t2] 25)); have hN := Blk.new w3 #[.int .u64 t0, .int .u64 t1, .int .u64 t2] 25; have n0 := hN.cell 0 _ rfl; have n1 := hN.cell 1 _ rfl; have n2 := hN.cell 2 _ rfl; have r0 := (hr0.later hb4).cell 0 _ rfl; have r1 := (hr0.later hb4).cell 1 _ rfl; have r2 := (hr0.later hb4).cell 2 _ rfl; have rf := (hr0.later hb4).frozen; clear hN; go_wp2; obtain ⟨HR, hbZ⟩ := res3 (x := .int .u64 t0) (y := .int .u64 t1) (z := .int .u64 t2) hr0 hb4 (show Below w.heap.size w _ by (repeat first | exact Below.refl _ _ | assumption | refine Bel.alloc' ?_ _ | refine Bel.drewN ?_ _ | refine Below.drew ?_ | refine Bel.step' ?_ (by assumption))) (Nat.le_refl _); generalize ((((w3.alloc (.cells #[.int .u64 t0, .int .u64 t1, .int .u64 t2] 25)).setCell ⟨w.heap.size, 0, none⟩ (.int .u64 t0)).setCell ⟨w.heap.size, 1, none⟩ (.int .u64 t1)).setCell ⟨w.heap.size, 2, none⟩ (.int .u64 t2)) = Z at HR hbZ ⊢; have z0 := HR.cell 0 _ rfl; have z1 := HR.cell 1 _ rfl; have z2 := HR.cell 2 _ rfl; refine bodyPost_ret (v := .tuple #[.agg #[.int .u64 t0, .int .u64 t1, .int .u64 t2], .int .i64 g]) (by simp [results, Tryz.results50, go_sem, z0, z1, z2]) rfl ⟨rfl, hbZ⟩)
  | true =>
    cases hv with
    | false =>
      simp only [Bool.true_and, Bool.not_false, cond_true] at CR
      (go_enter Tryz.func50, Tryz.ntmps50; go_upto_region 5 with (first | (go_at_call 81; refine (CC.out _).mono ?_; rintro e w1 ⟨rfl, rfl⟩) | (go_at_call 82; refine (CN.out _).mono ?_; rintro e w1 ⟨rfl, rfl⟩) | (go_at_call 79; refine (CR.out _ (by (repeat first | exact Below.refl _ _ | assumption | refine Bel.alloc' ?_ _ | refine Bel.drewN ?_ _ | refine Below.drew ?_ | refine Bel.step' ?_ (by assumption)))).mono ?_; rintro e w2 ⟨rfl, hb2⟩) | (go_at_call 54; refine (CP.out _ (Bel.step' (by (repeat first | exact Below.refl _ _ | assumption | refine Bel.alloc' ?_ _ | refine Bel.drewN ?_ _ | refine Below.drew ?_ | refine Bel.step' ?_ (by assumption))) hb2)).mono ?_; rintro e w3 ⟨rfl, hb3⟩)); have hz2 := hb2.size; have hz3 := hb3.size; simp at hz2; have hr0 : Blk (w.alloc (.cells #[.int .u64 0, .int .u64 0, .int .u64 0] 40)) w.heap.size #[.int .u64 0, .int .u64 0, .int .u64 0] 40 := Blk.new _ _ _; have hb4 := Bel.step' hb2 (hb3.alloc hb3.size (.cells #[.int .u64 t0, .int .u64 t1, .int .u64 t2] 25)); have hN := Blk.new w3 #[.int .u64 t0, .int .u64 t1, .int .u64 t2] 25; have n0 := hN.cell 0 _ rfl; have n1 := hN.cell 1 _ rfl; have n2 := hN.cell 2 _ rfl; have r0 := (hr0.later hb4).cell 0 _ rfl; have r1 := (hr0.later hb4).cell 1 _ rfl; have r2 := (hr0.later hb4).cell 2 _ rfl; have rf := (hr0.later hb4).frozen; clear hN; go_wp2; obtain ⟨HR, hbZ⟩ := res3 (x := .int .u64 t0) (y := .int .u64 t1) (z := .int .u64 t2) hr0 hb4 (show Below w.heap.size w _ by (repeat first | exact Below.refl _ _ | assumption | refine Bel.alloc' ?_ _ | refine Bel.drewN ?_ _ | refine Below.drew ?_ | refine Bel.step' ?_ (by assumption))) (Nat.le_refl _); generalize ((((w3.alloc (.cells #[.int .u64 t0, .int .u64 t1, .int .u64 t2] 25)).setCell ⟨w.heap.size, 0, none⟩ (.int .u64 t0)).setCell ⟨w.heap.size, 1, none⟩ (.int .u64 t1)).setCell ⟨w.heap.size, 2, none⟩ (.int .u64 t2)) = Z at HR hbZ ⊢; have z0 := HR.cell 0 _ rfl; have z1 := HR.cell 1 _ rfl; have z2 := HR.cell 2 _ rfl; refine bodyPost_ret (v := .tuple #[.agg #[.int .u64 t0, .int .u64 t1, .int .u64 t2], .int .i64 g]) (by simp [results, Tryz.results50, go_sem, z0, z1, z2]) rfl ⟨rfl, hbZ⟩)
    | true =>
      simp only [Bool.true_and, Bool.not_true, cond_false] at CR
      (go_enter Tryz.func50, Tryz.ntmps50; go_upto_region 5 with (first | (go_at_call 81; refine (CC.out _).mono ?_; rintro e w1 ⟨rfl, rfl⟩) | (go_at_call 82; refine (CN.out _).mono ?_; rintro e w1 ⟨rfl, rfl⟩) | (go_at_call 79; refine (CR.out _ (by (repeat first | exact Below.refl _ _ | assumption | refine Bel.alloc' ?_ _ | refine Bel.drewN ?_ _ | refine Below.drew ?_ | refine Bel.step' ?_ (by assumption)))).mono ?_; rintro e w2 ⟨rfl, hb2⟩) | (go_at_call 54; refine (CP.out _ (Bel.step' (by (repeat first | exact Below.refl _ _ | assumption | refine Bel.alloc' ?_ _ | refine Bel.drewN ?_ _ | refine Below.drew ?_ | refine Bel.step' ?_ (by assumption))) hb2)).mono ?_; rintro e w3 ⟨rfl, hb3⟩)); have hz2 := hb2.size; have hz3 := hb3.size; simp at hz2; have hr0 : Blk (w.alloc (.cells #[.int .u64 0, .int .u64 0, .int .u64 0] 40)) w.heap.size #[.int .u64 0, .int .u64 0, .int .u64 0] 40 := Blk.new _ _ _; have hb4 := Bel.step' hb2 (hb3.alloc hb3.size (.cells #[.int .u64 t0, .int .u64 t1, .int .u64 t2] 25)); have hN := Blk.new w3 #[.int .u64 t0, .int .u64 t1, .int .u64 t2] 25; have n0 := hN.cell 0 _ rfl; have n1 := hN.cell 1 _ rfl; have n2 := hN.cell 2 _ rfl; have r0 := (hr0.later hb4).cell 0 _ rfl; have r1 := (hr0.later hb4).cell 1 _ rfl; have r2 := (hr0.later hb4).cell 2 _ rfl; have rf := (hr0.later hb4).frozen; clear hN; go_wp2; obtain ⟨HR, hbZ⟩ := res3 (x := .int .u64 t0) (y := .int .u64 t1) (z := .int .u64 t2) hr0 hb4 (show Below w.heap.size w _ by (repeat first | exact Below.refl _ _ | assumption | refine Bel.alloc' ?_ _ | refine Bel.drewN ?_ _ | refine Below.drew ?_ | refine Bel.step' ?_ (by assumption))) (Nat.le_refl _); generalize ((((w3.alloc (.cells #[.int .u64 t0, .int .u64 t1, .int .u64 t2] 25)).setCell ⟨w.heap.size, 0, none⟩ (.int .u64 t0)).setCell ⟨w.heap.size, 1, none⟩ (.int .u64 t1)).setCell ⟨w.heap.size, 2, none⟩ (.int .u64 t2)) = Z at HR hbZ ⊢; have z0 := HR.cell 0 _ rfl; have z1 := HR.cell 1 _ rfl; have z2 := HR.cell 2 _ rfl; refine bodyPost_ret (v := .tuple #[.agg #[.int .u64 t0, .int .u64 t1, .int .u64 t2], .int .i64 g]) (by simp [results, Tryz.results50, go_sem, z0, z1, z2]) rfl ⟨rfl, hbZ⟩)

/-- path.Parse. -/
theorem pparse_at (s : ByteArray) (n : Int) (w : World) (hg : Glob w) (hs : s.size < 4294967281) :
    Calls Tryz.prog 50 #[.string s, .int .i64 n] w fun e w' => e = .returned (.tuple #[tmV (pParseV s n).1, .int .i64 (pParseV s n).2]) ∧ Below w.heap.size w w' := by
  have hsl : s.data.toList.length = s.size := Array.length_toList
  have hle := behindPlus_le s.data.toList
  refine pparse_walk s ⟨(Lib.trimPrefix s.data.toList [43]).toArray⟩ ⟨(repl 44 46 (behindPlus s.data.toList)).toArray⟩ (Lib.hasPrefix s.data.toList [43]) (decide (0 ≤ Lib.indexByte (Lib.trimPrefix s.data.toList [43]) 46)) n _ _ _ _ w
    (Lib.hid fun W => Tryz.strings_CutPrefix s ⟨#[43]⟩ W) (Lib.hid fun W => Tryz.strings_Contains_one ⟨(Lib.trimPrefix s.data.toList [43]).toArray⟩ 46 W) ?_
    (Lib.hid fun W hW => parse_at _ n W (hg.below hW) (by show (repl 44 46 (behindPlus s.data.toList)).toArray.size < _; simp only [List.size_toArray, repl_length]; omega))
  have e : (cond (Lib.hasPrefix s.data.toList [43] && !decide (0 ≤ Lib.indexByte (Lib.trimPrefix s.data.toList [43]) 46)) (⟨(Lib.trimPrefix s.data.toList [43]).toArray⟩ : ByteArray) ⟨#[]⟩) = ⟨(behindPlus s.data.toList).toArray⟩ := by
    unfold behindPlus
    by_cases h1 : Lib.hasPrefix s.data.toList [43] = true
    · by_cases h2 : 0 ≤ Lib.indexByte (Lib.trimPrefix s.data.toList [43]) 46
      · rw [if_neg (by simp [h2]), decide_eq_true h2]; simp
      · rw [if_pos ⟨h1, h2⟩, decide_eq_false h2, h1]; simp
    · rw [if_neg (by simp [h1])]
      have : Lib.hasPrefix s.data.toList [43] = false := by simpa using h1
      rw [this]; simp
  rw [e]
  exact Lib.hid fun W hW => replaceAll_at 44 46 (by decide) ⟨(behindPlus s.data.toList).toArray⟩ (by show (behindPlus s.data.toList).toArray.size < _; simp only [List.size_toArray]; omega) W (hg.below hW)
end Go.Proofs.YtiiegpklpmogmaaGreatDoor
