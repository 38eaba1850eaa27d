/- StampBack, walked. -/
import Derived.Test.YtiiegpklpmogmaaDoorSt16
import Derived.Test.YtiiegpklpmogmaaDoorStPlain7
import Derived.Deep.DeepCutAuto
set_option linter.unusedVariables false
set_option linter.unusedSimpArgs false
namespace Go.Proofs.YtiiegpklpmogmaaDoor
open Go.RowKit Go.Sort

set_option maxHeartbeats 4000000 in
set_option maxRecDepth 60000 in
theorem back_bad (a b : Tm) (n : Int) (w : World) (hg : Glob w) (h : fitsV a.a a.b a.c n ≠ 0) :
    Calls Tryd.prog 5 #[tmV a, tmV b, .int .i64 n] w fun e w' => e = .returned (.bool true) ∧ Below w.heap.size w w' := by
  have h10 : fitsV a.a a.b a.c n = 10 := by
    revert h
    unfold fitsV
    split
    · intro _; rfl
    · split
      · intro _; rfl
      · intro h; exact absurd rfl h
  have CT := fun W => text_bad a n W h
  have CF := fun W => fits_any a.a a.b a.c n W
  rw [h10] at CT CF
  have HT := Lib.hid CT
  have HF := Lib.hid CF
  have HG := Lib.hid hg
  have hguard := tm_guard
  clear CT CF hg h h10
  obtain ⟨a0, a1, a2⟩ := a
  obtain ⟨b0, b1, b2⟩ := b
  simp only [tmV] at HT HF ⊢
  go_enter Tryd.func5, Tryd.ntmps5
  go_upto_region 0 with fail
  go_cut [3, 4, 6] (fun s3 s4 s6 wc => ∃ p q : Nat, s3 = .pointer (some ⟨p, 0, none⟩) ∧ s4 = .pointer (some ⟨q, 0, none⟩) ∧ s6 = .bool false ∧ Blk wc p #[.int .u64 a0, .int .u64 a1, .int .u64 a2] 24 ∧ Blk wc q #[.int .u64 b0, .int .u64 b1, .int .u64 b2] 24 ∧ Below w.heap.size w wc)
  case first =>
    go_wp2_with fail
    go_meet
    exact ⟨_, _, rfl, rfl, rfl, (Blk.new _ _ _).alloc _, Blk.new' (by simp), by (repeat first | exact Below.refl _ _ | assumption | refine Bel.alloc' ?_ _ | refine Bel.drewN ?_ _ | refine Below.drew ?_ | refine Bel.step' ?_ (by assumption))⟩
  case rest =>
    obtain ⟨p, q, rfl, rfl, rfl, hp, hq, hbw⟩ := hcut
    go_wp2_with (first | (go_at_call 11; refine (taken_at _ (HG.out.below (by assumption))).mono ?_; rintro e wn ⟨rfl, hbn⟩; ((have hpx := Blk.later (k := p) (by assumption) hbn; have hqx := Blk.later (k := q) (by assumption) hbn; have p0 := hpx.cell 0 _ rfl; have p1 := hpx.cell 1 _ rfl; have p2 := hpx.cell 2 _ rfl; have q0 := hqx.cell 0 _ rfl; have q1 := hqx.cell 1 _ rfl; have q2 := hqx.cell 2 _ rfl); have hbw' := Bel.step' (a := w) (by assumption) hbn)) | (go_at_call 7; refine (HT.out _).mono ?_; rintro e wn ⟨rfl, hbn⟩; ((have hpx := Blk.later (k := p) (by assumption) hbn; have hqx := Blk.later (k := q) (by assumption) hbn; have p0 := hpx.cell 0 _ rfl; have p1 := hpx.cell 1 _ rfl; have p2 := hpx.cell 2 _ rfl; have q0 := hqx.cell 0 _ rfl; have q1 := hqx.cell 1 _ rfl; have q2 := hqx.cell 2 _ rfl); have hbw' := Bel.step' (a := w) (by assumption) hbn)) | (go_at_call 17; refine (HF.out _).mono ?_; rintro e wn ⟨rfl, hbn⟩; ((have hpx := Blk.later (k := p) (by assumption) hbn; have hqx := Blk.later (k := q) (by assumption) hbn; have p0 := hpx.cell 0 _ rfl; have p1 := hpx.cell 1 _ rfl; have p2 := hpx.cell 2 _ rfl; have q0 := hqx.cell 0 _ rfl; have q1 := hqx.cell 1 _ rfl; have q2 := hqx.cell 2 _ rfl); have hbw' := Bel.step' (a := w) (by assumption) hbn)))
    go_ret
    exact ⟨rfl, by assumption⟩

theorem odd_cells (s : List UInt8) : #[Value.string (⟨#[48]⟩ ++ ⟨s.toArray⟩), .string (⟨#[43]⟩ ++ ⟨s.toArray⟩), .string (⟨s.toArray⟩ ++ ⟨#[46]⟩), .string (⟨s.toArray⟩ ++ ⟨#[32]⟩), .string (⟨#[45]⟩ ++ ⟨s.toArray⟩), .string (⟨s.toArray⟩ ++ ⟨#[46, 48]⟩), .string (⟨#[46]⟩ ++ ⟨s.toArray⟩)] = ((odds s).map fun o => Value.string ⟨o.toArray⟩).toArray := by
  rw [show (⟨#[48]⟩ : ByteArray) = ⟨[48].toArray⟩ from rfl, show (⟨#[43]⟩ : ByteArray) = ⟨[43].toArray⟩ from rfl, show (⟨#[46]⟩ : ByteArray) = ⟨[46].toArray⟩ from rfl, show (⟨#[32]⟩ : ByteArray) = ⟨[32].toArray⟩ from rfl, show (⟨#[45]⟩ : ByteArray) = ⟨[45].toArray⟩ from rfl, show (⟨#[46, 48]⟩ : ByteArray) = ⟨[46, 48].toArray⟩ from rfl]
  simp only [ba_app]
  rfl

set_option maxHeartbeats 4000000 in
set_option maxRecDepth 60000 in
theorem back_walk (a0 a1 a2 b0 b1 b2 : Int) (m : Nat) (s x : List UInt8) (g : Int) (d : Bool) (w : World) (hg : Glob w)
    (HTa : Hid (∀ W, Below w.heap.size w W → Calls Tryd.prog 7 #[.agg #[.int .u64 a0, .int .u64 a1, .int .u64 a2], .int .i64 m] W fun e w' => e = .returned (.tuple #[.string ⟨s.toArray⟩, .int .i64 0]) ∧ Below W.heap.size W w'))
    (HTb : Hid (∀ W, Below w.heap.size w W → Calls Tryd.prog 7 #[.agg #[.int .u64 b0, .int .u64 b1, .int .u64 b2], .int .i64 m] W fun e w' => e = .returned (.tuple #[.string ⟨x.toArray⟩, .int .i64 g]) ∧ Below W.heap.size W w'))
    (HP : Hid (∀ W, Below w.heap.size w W → Calls Tryd.prog 9 #[.string ⟨s.toArray⟩, .int .i64 m] W fun e w' => e = .returned (.tuple #[.agg #[.int .u64 a0, .int .u64 a1, .int .u64 a2], .int .i64 0]) ∧ Below W.heap.size W w'))
    (HO : Hid (∀ o ∈ odds s, ∀ W, Below w.heap.size w W → Calls Tryd.prog 9 #[.string ⟨o.toArray⟩, .int .i64 m] W fun e w' => e = .returned (.tuple #[.agg #[.int .u64 0, .int .u64 0, .int .u64 0], .int .i64 11]) ∧ Below W.heap.size W w'))
    (HF : Hid (∀ W, Calls Tryd.prog 17 #[.agg #[.int .u64 a0, .int .u64 a1, .int .u64 a2], .int .i64 m] W fun e w' => e = .returned (.int .i64 0) ∧ Below W.heap.size W w'))
    (hs : s.length ≤ 63) (hsame : Hid (g = 0 ∧ (x == s) = d ∨ g = 10)) (he : ∀ W, (binOp .eql 24 (.agg #[.int .u64 a0, .int .u64 a1, .int .u64 a2]) (.agg #[.int .u64 b0, .int .u64 b1, .int .u64 b2])).run Tryd.prog W = .ok (.bool d) W)
    (hn : ∀ W, (binOp .neq 24 (.agg #[.int .u64 a0, .int .u64 a1, .int .u64 a2]) (.agg #[.int .u64 a0, .int .u64 a1, .int .u64 a2])).run Tryd.prog W = .ok (.bool false) W) :
    Calls Tryd.prog 5 #[.agg #[.int .u64 a0, .int .u64 a1, .int .u64 a2], .agg #[.int .u64 b0, .int .u64 b1, .int .u64 b2], .int .i64 m] w fun e w' => e = .returned (.bool true) ∧ Below w.heap.size w w' := by
  have HG := Lib.hid hg
  have hguard := tm_guard
  have hz := fun W => tm_neq tm0 tm0 W
  simp only [tmV, tm0, decide_true, Bool.not_true] at hz
  clear hg
  go_enter Tryd.func5, Tryd.ntmps5
  go_upto_region 0 with fail
  go_cut [3, 4, 6] (fun s3 s4 s6 wc => ∃ p q : Nat, s3 = .pointer (some ⟨p, 0, none⟩) ∧ s4 = .pointer (some ⟨q, 0, none⟩) ∧ s6 = .bool false ∧ Blk wc p #[.int .u64 a0, .int .u64 a1, .int .u64 a2] 24 ∧ Blk wc q #[.int .u64 b0, .int .u64 b1, .int .u64 b2] 24 ∧ Below w.heap.size w wc)
  case first =>
    go_wp2_with fail
    go_meet
    exact ⟨_, _, rfl, rfl, rfl, (Blk.new _ _ _).alloc _, Blk.new' (by simp), by (repeat first | exact Below.refl _ _ | assumption | refine Bel.alloc' ?_ _ | refine Bel.drewN ?_ _ | refine Below.drew ?_ | refine Bel.step' ?_ (by assumption))⟩
  case rest =>
    obtain ⟨p, q, rfl, rfl, rfl, hp, hq, hbw⟩ := hcut
    go_upto_region 6 with (first | (go_at_call 11; refine (taken_at _ (HG.out.below (by assumption))).mono ?_; rintro e wn ⟨rfl, hbn⟩; ((have hpx := Blk.later (k := p) (by assumption) hbn; have hqx := Blk.later (k := q) (by assumption) hbn; have p0 := hpx.cell 0 _ rfl; have p1 := hpx.cell 1 _ rfl; have p2 := hpx.cell 2 _ rfl; have q0 := hqx.cell 0 _ rfl; have q1 := hqx.cell 1 _ rfl; have q2 := hqx.cell 2 _ rfl); have hbw' := Bel.step' (a := w) (by assumption) hbn)) | (go_at_call 7; with_reducible refine Calls.mono (HTa.out _ (by assumption)) ?_; rintro e wn ⟨rfl, hbn⟩; ((have hpx := Blk.later (k := p) (by assumption) hbn; have hqx := Blk.later (k := q) (by assumption) hbn; have p0 := hpx.cell 0 _ rfl; have p1 := hpx.cell 1 _ rfl; have p2 := hpx.cell 2 _ rfl; have q0 := hqx.cell 0 _ rfl; have q1 := hqx.cell 1 _ rfl; have q2 := hqx.cell 2 _ rfl); have hbw' := Bel.step' (a := w) (by assumption) hbn)))
    have hP0 := Blk.later (k := p) (by assumption) hbn
    have hQ0 := Blk.later (k := q) (by assumption) hbn
    have hW0 := Bel.step' (a := w) (by assumption) hbn
    go_cut [9, 10] (fun s9 s10 wc => ∃ r : Nat, s9 = .pointer (some ⟨r, 0, none⟩) ∧ s10 = .int .i64 0 ∧ Blk wc r #[.int .u64 a0, .int .u64 a1, .int .u64 a2] 24 ∧ Blk wc p #[.int .u64 a0, .int .u64 a1, .int .u64 a2] 24 ∧ Blk wc q #[.int .u64 b0, .int .u64 b1, .int .u64 b2] 24 ∧ Below w.heap.size w wc)
    case first =>
      clear p0 p1 p2 q0 q1 q2
      go_wp2_with (first | (go_at_call 9; with_reducible refine Calls.mono (HP.out _ (by assumption)) ?_; rintro e wn ⟨rfl, hbn⟩))
      go_meet
      exact ⟨_, rfl, rfl, Blk.new _ _ _, (hP0.later hbn).alloc _, (hQ0.later hbn).alloc _, (Bel.step' hW0 hbn).alloc (Bel.step' hW0 hbn).size _⟩
    case rest =>
      obtain ⟨r, rfl, rfl, hr, hp, hq, hbw⟩ := hcut
      clear p0 p1 p2 q0 q1 q2 hP0 hQ0 hW0
      (have hpx := Blk.later (k := p) (by assumption) (Below.refl _ wc); have hqx := Blk.later (k := q) (by assumption) (Below.refl _ wc); have hrx := Blk.later (k := r) (by assumption) (Below.refl _ wc); have p0 := hpx.cell 0 _ rfl; have p1 := hpx.cell 1 _ rfl; have p2 := hpx.cell 2 _ rfl; have q0 := hqx.cell 0 _ rfl; have q1 := hqx.cell 1 _ rfl; have q2 := hqx.cell 2 _ rfl; have r0 := hrx.cell 0 _ rfl; have r1 := hrx.cell 1 _ rfl; have r2 := hrx.cell 2 _ rfl)
      go_upto_region 8 with (first | (go_at_call 7; with_reducible refine Calls.mono (HTb.out _ (by assumption)) ?_; rintro e wn ⟨rfl, hbn⟩; ((have hpx := Blk.later (k := p) (by assumption) hbn; have hqx := Blk.later (k := q) (by assumption) hbn; have hrx := Blk.later (k := r) (by assumption) hbn; have p0 := hpx.cell 0 _ rfl; have p1 := hpx.cell 1 _ rfl; have p2 := hpx.cell 2 _ rfl; have q0 := hqx.cell 0 _ rfl; have q1 := hqx.cell 1 _ rfl; have q2 := hqx.cell 2 _ rfl; have r0 := hrx.cell 0 _ rfl; have r1 := hrx.cell 1 _ rfl; have r2 := hrx.cell 2 _ rfl); have hbw' := Bel.step' (a := w) (by assumption) hbn)))
      have hW0 := Bel.step' (a := w) (by assumption) hbn
      go_cut [77] (fun s77 wc => s77 = .bool false ∧ Below w.heap.size w wc)
      case first =>
        rcases hsame.out with ⟨rfl, h2⟩ | rfl
        · subst h2
          cases hxs : (x == s) with
          | true =>
            rw [hxs] at he
            go_wp2_with (first | (go_at_call 17; with_reducible refine Calls.mono (HF.out _) ?_; rintro e wn ⟨rfl, hbn⟩; ((have hpx := Blk.later (k := p) (by assumption) hbn; have hqx := Blk.later (k := q) (by assumption) hbn; have hrx := Blk.later (k := r) (by assumption) hbn; have p0 := hpx.cell 0 _ rfl; have p1 := hpx.cell 1 _ rfl; have p2 := hpx.cell 2 _ rfl; have q0 := hqx.cell 0 _ rfl; have q1 := hqx.cell 1 _ rfl; have q2 := hqx.cell 2 _ rfl; have r0 := hrx.cell 0 _ rfl; have r1 := hrx.cell 1 _ rfl; have r2 := hrx.cell 2 _ rfl); have hbw' := Bel.step' (a := w) (by assumption) hbn)))
            go_meet
            exact ⟨rfl, by assumption⟩
          | false =>
            rw [hxs] at he
            go_wp2_with (first | (go_at_call 17; with_reducible refine Calls.mono (HF.out _) ?_; rintro e wn ⟨rfl, hbn⟩; ((have hpx := Blk.later (k := p) (by assumption) hbn; have hqx := Blk.later (k := q) (by assumption) hbn; have hrx := Blk.later (k := r) (by assumption) hbn; have p0 := hpx.cell 0 _ rfl; have p1 := hpx.cell 1 _ rfl; have p2 := hpx.cell 2 _ rfl; have q0 := hqx.cell 0 _ rfl; have q1 := hqx.cell 1 _ rfl; have q2 := hqx.cell 2 _ rfl; have r0 := hrx.cell 0 _ rfl; have r1 := hrx.cell 1 _ rfl; have r2 := hrx.cell 2 _ rfl); have hbw' := Bel.step' (a := w) (by assumption) hbn)))
            go_meet
            exact ⟨rfl, by assumption⟩
        · go_wp2_with (first | (go_at_call 17; with_reducible refine Calls.mono (HF.out _) ?_; rintro e wn ⟨rfl, hbn⟩; ((have hpx := Blk.later (k := p) (by assumption) hbn; have hqx := Blk.later (k := q) (by assumption) hbn; have hrx := Blk.later (k := r) (by assumption) hbn; have p0 := hpx.cell 0 _ rfl; have p1 := hpx.cell 1 _ rfl; have p2 := hpx.cell 2 _ rfl; have q0 := hqx.cell 0 _ rfl; have q1 := hqx.cell 1 _ rfl; have q2 := hqx.cell 2 _ rfl; have r0 := hrx.cell 0 _ rfl; have r1 := hrx.cell 1 _ rfl; have r2 := hrx.cell 2 _ rfl); have hbw' := Bel.step' (a := w) (by assumption) hbn)))
          go_meet
          exact ⟨rfl, by assumption⟩
      case rest =>
        obtain ⟨rfl, hbw⟩ := hcut
        clear p0 p1 p2 q0 q1 q2 r0 r1 r2
        go_upto_region 11 with fail
        have hB := Blk.new wc #[.string (⟨#[48]⟩ ++ ⟨s.toArray⟩), .string (⟨#[43]⟩ ++ ⟨s.toArray⟩), .string (⟨s.toArray⟩ ++ ⟨#[46]⟩), .string (⟨s.toArray⟩ ++ ⟨#[32]⟩), .string (⟨#[45]⟩ ++ ⟨s.toArray⟩), .string (⟨s.toArray⟩ ++ ⟨#[46, 48]⟩), .string (⟨#[46]⟩ ++ ⟨s.toArray⟩)] 9
        rw [odd_cells] at hB
        have hbX := Bel.alloc' hbw (.cells #[.string (⟨#[48]⟩ ++ ⟨s.toArray⟩), .string (⟨#[43]⟩ ++ ⟨s.toArray⟩), .string (⟨s.toArray⟩ ++ ⟨#[46]⟩), .string (⟨s.toArray⟩ ++ ⟨#[32]⟩), .string (⟨#[45]⟩ ++ ⟨s.toArray⟩), .string (⟨s.toArray⟩ ++ ⟨#[46, 48]⟩), .string (⟨#[46]⟩ ++ ⟨s.toArray⟩)] 9)
        rw [odd_cells] at hbX
        rw [odd_cells]
        generalize wc.alloc _ = X at *
        generalize wc.heap.size = g0 at *
        clear hbw HTa HTb HP HF he hn hsame
        have hol : (odds s).length = 7 := rfl
        have HB := Lib.hid hB
        clear hB
        generalize odds s = os at *
        go_wp2
        go_loopw [14] (fun v14 wr => ∃ k : Nat, k ≤ 7 ∧ v14 = .int .i64 k ∧ Hid (Blk wr g0 (os.map fun o => Value.string ⟨o.toArray⟩).toArray 9) ∧ Below w.heap.size w wr) (fun v14 _ => 7 - (intOf v14).toNat)
        case atStart => exact ⟨0, by omega, rfl, HB, hbX⟩
        case round =>
          obtain ⟨k, hk, rfl, HBr, hbr⟩ := hrel
          have k0 : 0 ≤ (k : Int) := by omega
          by_cases hlt : k < 7
          · have hoi : os[k]? = some os[k] := List.getElem?_eq_getElem (by omega)
            have HC := HO.out os[k] (List.getElem_mem (by omega))
            generalize os[k] = o at hoi HC
            have hce := HBr.out.cell k (.string ⟨o.toArray⟩) (by simp [hoi])
            have k1 : (k : Int) < 7 := by omega
            have HOC := Lib.hid HC
            clear HC hoi
            have hoz : Hid (os.length = 7) := Lib.hid hol
            clear hol
            go_wp2_with (go_at_call 9; with_reducible refine Calls.mono (HOC.out _ (by assumption)) ?_; rintro e wn ⟨rfl, hbn⟩)
            exact ⟨⟨k + 1, by omega, rfl, Lib.hid ((HBr.out.later hbn).alloc _), by (repeat first | exact Below.refl _ _ | assumption | refine Bel.alloc' ?_ _ | refine Bel.drewN ?_ _ | refine Below.drew ?_ | refine Bel.step' ?_ (by assumption))⟩, by simp [intOf]; omega⟩
          · obtain rfl : k = 7 := by omega
            go_wp2
            go_ret
            exact ⟨rfl, hbr⟩

theorem back_good (a b : Tm) (m : Nat) (w : World) (hg : Glob w) (ha : a.ok) (hb : b.ok) (h1 : 1 ≤ m) (h3 : m ≤ 3) (fa : fitsV a.a a.b a.c m = 0) :
    Calls Tryd.prog 5 #[tmV a, tmV b, .int .i64 m] w fun e w' => e = .returned (.bool true) ∧ Below w.heap.size w w' := by
  have hm : ((m : Int)).toNat = m := rfl
  have hT : ∃ (x : List UInt8) (g : Int), (∀ W, Below w.heap.size w W → Calls Tryd.prog 7 #[.agg #[.int .u64 b.a, .int .u64 b.b, .int .u64 b.c], .int .i64 m] W fun e w' => e = .returned (.tuple #[.string ⟨x.toArray⟩, .int .i64 g]) ∧ Below W.heap.size W w') ∧ (g = 0 ∧ (x == textV a m) = decide (a = b) ∨ g = 10) := by
    by_cases fb : fitsV b.a b.b b.c m = 0
    · refine ⟨textV b m, 0, fun W hW => text_good b m W (hg.below hW) hb h1 h3 fb, .inl ⟨rfl, ?_⟩⟩
      rw [Bool.eq_iff_iff, beq_iff_eq, decide_eq_true_eq]
      exact ⟨fun h => text_inj (n := m) ha hb (by omega) (by omega) fa fb h, fun h => by rw [h]⟩
    · refine ⟨[], fitsV b.a b.b b.c m, fun W _ => text_bad b m W fb, .inr ?_⟩
      revert fb
      unfold fitsV
      split
      · intro _; rfl
      · split
        · intro _; rfl
        · intro h; exact absurd rfl h
  obtain ⟨x, g, hT, hs⟩ := hT
  have hlen := textV_length a m ha h3
  refine back_walk a.a a.b a.c b.a b.b b.c m (textV a m) x g (decide (a = b)) w hg (fun W hW => text_good a m W (hg.below hW) ha h1 h3 fa) hT ?_ ?_ ?_ hlen hs (fun W => tm_eql a b W) ?_
  · intro W hW
    have h := parse_at ⟨(textV a m).toArray⟩ m W (hg.below hW) (by show (textV a m).toArray.size < _; simp; omega)
    have e := parse_text (n := m) ha (by omega) (by omega) fa
    rw [hm] at e
    rw [e] at h
    exact h
  · intro o ho W hW
    have ho63 : o.length ≤ 65 := by
      simp only [odds, List.mem_cons, List.mem_nil_iff, or_false] at ho
      rcases ho with rfl | rfl | rfl | rfl | rfl | rfl | rfl <;> simp <;> omega
    have h := parse_at ⟨o.toArray⟩ m W (hg.below hW) (by show o.toArray.size < _; simp; omega)
    have e := odds_parse (a := a) (n := m) (by omega) (by omega) (o := o) (by rw [hm]; exact ho)
    rw [e] at h
    exact h
  · intro W
    have h := fits_any a.a a.b a.c m W
    rw [fa] at h
    exact h
  · intro W
    have h := tm_neq a a W
    rw [show decide (a = a) = true from decide_eq_true rfl] at h
    exact h
theorem back_at (a b : Tm) (n : Int) (w : World) (hg : Glob w) (ha : a.ok) (hb : b.ok) :
    Calls Tryd.prog 5 #[tmV a, tmV b, .int .i64 n] w fun e w' => e = .returned (.bool true) ∧ Below w.heap.size w w' := by
  by_cases h : fitsV a.a a.b a.c n = 0
  · have hn : 1 ≤ n ∧ n ≤ 3 := by
      unfold fitsV at h
      split at h
      · cases h
      · omega
    obtain ⟨m, rfl⟩ : ∃ m : Nat, n = m := ⟨n.toNat, by omega⟩
    exact back_good a b m w hg ha hb (by omega) (by omega) h
  · exact back_bad a b n w hg h
end Go.Proofs.YtiiegpklpmogmaaDoor
