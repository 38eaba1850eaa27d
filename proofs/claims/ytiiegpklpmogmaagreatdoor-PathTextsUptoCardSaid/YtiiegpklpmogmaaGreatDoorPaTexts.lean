/- PathTexts, walked. -/
import Derived.Test.YtiiegpklpmogmaaGreatDoorR2I
import Derived.Test.YtiiegpklpmogmaaGreatDoorPaRow
import Derived.Deep.DeepCutAuto
set_option linter.unusedVariables false
set_option linter.unusedSimpArgs false
namespace Go.Proofs.YtiiegpklpmogmaaGreatDoor
open Go.RowKit Go.Sort

set_option maxHeartbeats 4000000 in
set_option maxRecDepth 60000 in
theorem texts_walk (a0 a1 a2 u0 u1 u2 n : Int) (s : ByteArray) (l : List UInt8) (e g : Int) (w : World) (hg : Glob w)
    (HT : Hid (∀ W, Below w.heap.size w W → Calls Tryz.prog 48 #[.agg #[.int .u64 a0, .int .u64 a1, .int .u64 a2], .int .i64 n] W fun r w' => r = .returned (.tuple #[.string ⟨l.toArray⟩, .int .i64 e]) ∧ Below W.heap.size W w'))
    (HRT : Hid (∀ W, Below w.heap.size w W → Calls Tryz.prog 49 #[.agg #[.int .u64 a0, .int .u64 a1, .int .u64 a2], .int .i64 n] W fun r w' => r = .returned (.tuple #[.string ⟨l.toArray⟩, .int .i64 e]) ∧ Below W.heap.size W w'))
    (HP : Hid (∀ W, Below w.heap.size w W → Calls Tryz.prog 50 #[.string s, .int .i64 n] W fun r w' => r = .returned (.tuple #[.agg #[.int .u64 u0, .int .u64 u1, .int .u64 u2], .int .i64 g]) ∧ Below W.heap.size W w'))
    (HRP : Hid (∀ W, Below w.heap.size w W → Calls Tryz.prog 51 #[.string s, .int .i64 n] W fun r w' => r = .returned (.tuple #[.agg #[.int .u64 u0, .int .u64 u1, .int .u64 u2], .int .i64 g]) ∧ Below W.heap.size W w'))
    (he : ∀ W, (binOp .eql 40 (.agg #[.int .u64 u0, .int .u64 u1, .int .u64 u2]) (.agg #[.int .u64 u0, .int .u64 u1, .int .u64 u2])).run Tryz.prog W = .ok (.bool true) W) :
    Calls Tryz.prog 7 #[.agg #[.int .u64 a0, .int .u64 a1, .int .u64 a2], .int .i64 n, .string s] w fun r w' => r = .returned (.bool true) ∧ Below w.heap.size w w' := by
  have HG := Lib.hid hg
  have hguard := pt_guard
  have e1 : (l == l) = true := by simp
  have e2 : (e == e) = true := by simp
  have e3 : (g == g) = true := by simp
  clear hg
  go_enter Tryz.func7, Tryz.ntmps7
  go_upto_region 0 with fail
  go_cut [3, 6] (fun s3 s6 wc => ∃ p : Nat, s3 = .pointer (some ⟨p, 0, none⟩) ∧ s6 = .bool false ∧ Blk wc p #[.int .u64 a0, .int .u64 a1, .int .u64 a2] 40 ∧ Below w.heap.size w wc)
  case first =>
    go_wp2_with fail
    go_meet
    exact ⟨_, rfl, rfl, Blk.new _ _ _, by (repeat first | exact Below.refl _ _ | assumption | refine Bel.alloc' ?_ _ | refine Bel.drewN ?_ _ | refine Below.drew ?_ | refine Bel.step' ?_ (by assumption))⟩
  case rest =>
    obtain ⟨p, rfl, rfl, hp, hbw⟩ := hcut
    have p0 := hp.cell 0 _ rfl
    have p1 := hp.cell 1 _ rfl
    have p2 := hp.cell 2 _ rfl
    go_upto_region 3 with (first | (go_at_call 48; with_reducible refine Calls.mono (HT.out _ (by assumption)) ?_; rintro r wn ⟨rfl, hbn⟩; have hpx := Blk.later (k := p) (by assumption) hbn; have p0 := hpx.cell 0 _ rfl; have p1 := hpx.cell 1 _ rfl; have p2 := hpx.cell 2 _ rfl; have hbw' := Bel.step' (a := w) (by assumption) hbn) | (go_at_call 49; with_reducible refine Calls.mono (HRT.out _ (by assumption)) ?_; rintro r wn ⟨rfl, hbn⟩; have hbw' := Bel.step' (a := w) (by assumption) hbn))
    have hbX := Bel.step' (a := w) (by assumption) hbn
    go_cut [11, 12] (fun s11 s12 wc => ∃ q : Nat, s11 = .pointer (some ⟨q, 0, none⟩) ∧ s12 = .int .i64 g ∧ Blk wc q #[.int .u64 u0, .int .u64 u1, .int .u64 u2] 40 ∧ Below w.heap.size w wc)
    case first =>
      go_wp2_with (go_at_call 50; with_reducible refine Calls.mono (HP.out _ (by assumption)) ?_; rintro r wn ⟨rfl, hbn⟩)
      go_meet
      exact ⟨_, rfl, rfl, Blk.new _ _ _, (Bel.step' hbX hbn).alloc (Bel.step' hbX hbn).size _⟩
    case rest =>
      obtain ⟨q, rfl, rfl, hq, hbw⟩ := hcut
      clear p0 p1 p2 hbX
      go_upto_region 4 with fail
      go_cut [13, 14] (fun s13 s14 wc => ∃ t : Nat, s13 = .pointer (some ⟨t, 0, none⟩) ∧ s14 = .int .i64 g ∧ Blk wc t #[.int .u64 u0, .int .u64 u1, .int .u64 u2] 40 ∧ Blk wc q #[.int .u64 u0, .int .u64 u1, .int .u64 u2] 40 ∧ Below w.heap.size w wc)
      case first =>
        go_wp2_with (go_at_call 51; with_reducible refine Calls.mono (HRP.out _ hbw) ?_; rintro r wn ⟨rfl, hbn⟩)
        go_meet
        exact ⟨_, rfl, rfl, Blk.new _ _ _, (hq.later hbn).alloc _, (Bel.step' hbw hbn).alloc (Bel.step' hbw hbn).size _⟩
      case rest =>
        obtain ⟨t, rfl, rfl, ht, hq, hbw⟩ := hcut
        go_wp2_with (go_at_call 40; refine (known_at _ (HG.out.below hbw)).mono ?_; rintro r wn ⟨rfl, hbn⟩; have hq5 := hq.later hbn; have q0 := hq5.cell 0 _ rfl; have q1 := hq5.cell 1 _ rfl; have q2 := hq5.cell 2 _ rfl; have ht5 := ht.later hbn; have t0 := ht5.cell 0 _ rfl; have t1 := ht5.cell 1 _ rfl; have t2 := ht5.cell 2 _ rfl)
        go_ret
        exact ⟨rfl, Bel.step' hbw hbn⟩

theorem fits_ten (a b c n : Int) (h : fitsV a b c n ≠ 0) : fitsV a b c n = 10 := by
  revert h; unfold fitsV; split
  · intro _; rfl
  · split
    · intro _; rfl
    · intro h; exact absurd rfl h
theorem texts_at (t : Tm) (n : Int) (s : ByteArray) (w : World) (hg : Glob w) (ht : t.ok) (hs : s.size < 4294967281) :
    Calls Tryz.prog 7 #[tmV t, .int .i64 n, .string s] w fun r w' => r = .returned (.bool true) ∧ Below w.heap.size w w' := by
  have hT : ∃ (l : List UInt8) (e : Int), (∀ W, Below w.heap.size w W → Calls Tryz.prog 48 #[.agg #[.int .u64 t.a, .int .u64 t.b, .int .u64 t.c], .int .i64 n] W fun r w' => r = .returned (.tuple #[.string ⟨l.toArray⟩, .int .i64 e]) ∧ Below W.heap.size W w') ∧
      (∀ W, Below w.heap.size w W → Calls Tryz.prog 49 #[.agg #[.int .u64 t.a, .int .u64 t.b, .int .u64 t.c], .int .i64 n] W fun r w' => r = .returned (.tuple #[.string ⟨l.toArray⟩, .int .i64 e]) ∧ Below W.heap.size W w') := by
    by_cases h : fitsV t.a t.b t.c n = 0
    · have hn : 1 ≤ n ∧ n ≤ 3 := by
        unfold fitsV at h
        split at h
        · cases h
        · omega
      obtain ⟨m, rfl⟩ : ∃ m : Nat, n = m := ⟨n.toNat, by omega⟩
      exact ⟨pTextV t m, 0, fun W hW => ptext_good t m W (hg.below hW) ht (by omega) (by omega) h, fun W _ => r2text_good t m W ht (by omega) (by omega) h⟩
    · exact ⟨[], 10, fun W _ => by have hb := ptext_bad t n W h; rw [fits_ten _ _ _ _ h] at hb; exact hb, fun W _ => r2text_bad t n W h⟩
  obtain ⟨l, e, h1, h2⟩ := hT
  exact texts_walk t.a t.b t.c (pParseV s n).1.a (pParseV s n).1.b (pParseV s n).1.c n s l e (pParseV s n).2 w hg (Lib.hid h1) (Lib.hid h2)
    (Lib.hid fun W hW => pparse_at s n W (hg.below hW) hs) (Lib.hid fun W _ => r2parse_at s n W hs)
    (fun W => by have h := pt_eql (pParseV s n).1 (pParseV s n).1 W; rw [show decide ((pParseV s n).1 = (pParseV s n).1) = true from decide_eq_true rfl] at h; exact h)
end Go.Proofs.YtiiegpklpmogmaaGreatDoor
