/- The law's times, walked. -/
import Derived.Test.YtiiegpklpmogmaaGreatDoorSt11
set_option linter.unusedVariables false
set_option linter.unusedSimpArgs false
namespace Go.Proofs.YtiiegpklpmogmaaGreatDoor
open Go.RowKit

theorem tm_guard : Tryz.prog.eqGuardType Tryz.prog.depth 25 = false := by kernel_rfl
theorem tm_stood : Tryz.prog.stoodInHeld 25 = false := by kernel_rfl
theorem tm_neq (x y : Tm) (W : World) : (binOp .neq 25 (tmV x) (tmV y)).run Tryz.prog W = .ok (.bool (!decide (x = y))) W := by
  have h4 := tm_stood
  obtain ⟨xa, xb, xc⟩ := x
  obtain ⟨ya, yb, yc⟩ := y
  simp only [tmV]
  by_cases e1 : xa = ya
  · by_cases e2 : xb = yb
    · by_cases e3 : xc = yc
      · simp [go_sem, Tryz.underlying25, Tryz.underlying23, *]
      · simp [go_sem, Tryz.underlying25, Tryz.underlying23, *]
    · simp [go_sem, Tryz.underlying25, Tryz.underlying23, *]
  · simp [go_sem, Tryz.underlying25, Tryz.underlying23, *]
theorem tm_eql (x y : Tm) (W : World) : (binOp .eql 25 (tmV x) (tmV y)).run Tryz.prog W = .ok (.bool (decide (x = y))) W := by
  have h4 := tm_stood
  obtain ⟨xa, xb, xc⟩ := x
  obtain ⟨ya, yb, yc⟩ := y
  simp only [tmV]
  by_cases e1 : xa = ya
  · by_cases e2 : xb = yb
    · by_cases e3 : xc = yc
      · simp [go_sem, Tryz.underlying25, Tryz.underlying23, *]
      · simp [go_sem, Tryz.underlying25, Tryz.underlying23, *]
    · simp [go_sem, Tryz.underlying25, Tryz.underlying23, *]
  · simp [go_sem, Tryz.underlying25, Tryz.underlying23, *]

theorem times_take (xs ys : List Tm) (k : Nat) (x y : Tm) (hx : xs[k]? = some x) (hy : ys[k]? = some y) (h : xs.take k = ys.take k) (e : x = y) : xs.take (k + 1) = ys.take (k + 1) := by
  rw [List.take_add_one, List.take_add_one, hx, hy, h, e]

set_option maxHeartbeats 2000000 in
/-- The same lists? -/
theorem times_at (A : Option Addr) (n c : Nat) (xs : List Tm) (A' : Option Addr) (n' c' : Nat) (ys : List Tm) (S S' : Nat → Prop) (w : World) (h : Rd tmR w S A n c xs) (h' : Rd tmR w S' A' n' c' ys) :
    Calls Tryz.prog 17 #[.slice A n c, .slice A' n' c'] w fun e w' => e = .returned (.bool (decide (xs = ys))) ∧ Below w.heap.size w w' := by
  have HR := Lib.hid h
  have HR' := Lib.hid h'
  have hsm := h.small
  have hle := h.le
  have hsm' := h'.small
  have hle' := h'.le
  have hln := Lib.hid h.length
  have hln' := Lib.hid h'.length
  clear h h'
  by_cases hnn : n = n'
  · subst hnn
    go_enter Tryz.func17, Tryz.ntmps17
    go_wp2
    go_loopw [5] (fun v5 wr => ∃ k : Nat, k ≤ n ∧ v5 = .int .i64 k ∧ Hid (xs.take k = ys.take k) ∧ Below w.heap.size w wr) (fun v5 _ => n - (intOf v5).toNat)
    case atStart => exact ⟨0, by omega, rfl, by simp [Hid], by (repeat first | exact Below.refl _ _ | assumption | refine Bel.alloc' ?_ _ | refine Bel.drewN ?_ _ | refine Below.drew ?_ | refine Bel.step' ?_ (by assumption))⟩
    case round =>
      obtain ⟨k, hk, rfl, HN, hbel⟩ := hrel
      have k0 : 0 ≤ (k : Int) := by omega
      by_cases hlt : k < n
      · obtain ⟨b, off, x, cs, rfl, hx, hK, hb, hS, hc⟩ := HR.out.at_ k hlt
        obtain rfl : cs = tmCells x := hK
        obtain ⟨b', off', y, cs', rfl, hy, hK', hb', hS', hc'⟩ := HR'.out.at_ k hlt
        obtain rfl : cs' = tmCells y := hK'
        have d0 : wr.cell? ⟨b, off + k * 3, none⟩ = _ := (hbel.cell (p := ⟨b, off + k * 3, none⟩) hb).trans (hc 0 _ rfl)
        have d1 : wr.cell? ⟨b, off + k * 3 + 1, none⟩ = _ := (hbel.cell (p := ⟨b, _, none⟩) hb).trans (hc 1 _ rfl)
        have d2 : wr.cell? ⟨b, off + k * 3 + 2, none⟩ = _ := (hbel.cell (p := ⟨b, _, none⟩) hb).trans (hc 2 _ rfl)
        have f0 : wr.cell? ⟨b', off' + k * 3, none⟩ = _ := (hbel.cell (p := ⟨b', off' + k * 3, none⟩) hb').trans (hc' 0 _ rfl)
        have f1 : wr.cell? ⟨b', off' + k * 3 + 1, none⟩ = _ := (hbel.cell (p := ⟨b', _, none⟩) hb').trans (hc' 1 _ rfl)
        have f2 : wr.cell? ⟨b', off' + k * 3 + 2, none⟩ = _ := (hbel.cell (p := ⟨b', _, none⟩) hb').trans (hc' 2 _ rfl)
        have k1 : (k : Int) < n := by omega
        have HX := Lib.hid hx
        have HY := Lib.hid hy
        clear hx hy hc hc'
        have hg := tm_guard
        have he := fun W => tm_neq x y W
        simp only [tmV] at he
        by_cases hxy : x = y
        · rw [decide_eq_true hxy] at he
          have HQ := Lib.hid hxy
          clear hxy
          go_wp2
          go_quiet (fail)
          go_wp2
          refine ⟨⟨k + 1, by omega, rfl, times_take xs ys k x y HX.out HY.out HN.out HQ.out, Bel.drewN hbel _⟩, by simp [intOf]; omega⟩
        · rw [decide_eq_false hxy] at he
          have HQ := Lib.hid hxy
          clear hxy
          go_wp2
          go_quiet (fail)
          go_wp2
          go_ret
          refine ⟨ret_bool (Eq.symm (decide_eq_false (fun e => HQ.out ?_))), Bel.drewN hbel _⟩
          have h1 := HX.out
          rw [e, HY.out] at h1
          exact (Option.some.inj h1).symm
      · obtain rfl : n = k := by omega
        have k1 : ¬ (n : Int) < n := by omega
        go_wp2
        go_ret
        refine ⟨ret_bool (Eq.symm (decide_eq_true ?_)), hbel⟩
        have h1 := HN.out
        rw [List.take_of_length_le (by have := hln.out; omega), List.take_of_length_le (by have := hln'.out; omega)] at h1
        exact h1
  · have t1 : ((n : Int) != n') = true := by simp; omega
    go_enter Tryz.func17, Tryz.ntmps17
    go_wp2
    go_ret
    exact ⟨ret_bool (Eq.symm (decide_eq_false (fun e => hnn (by rw [← hln.out, ← hln'.out, e])))), Below.refl _ _⟩
end Go.Proofs.YtiiegpklpmogmaaGreatDoor
