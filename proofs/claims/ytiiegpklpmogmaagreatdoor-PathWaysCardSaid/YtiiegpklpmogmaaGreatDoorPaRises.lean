/- PathRises: its plain facts and its walk joined. -/
import Derived.Test.YtiiegpklpmogmaaGreatDoorPa6
import Derived.Test.YtiiegpklpmogmaaGreatDoorPaRow
set_option linter.unusedVariables false
set_option linter.unusedSimpArgs false
namespace Go.Proofs.YtiiegpklpmogmaaGreatDoor
open Go.RowKit

theorem cmp_sign (x y : Tm) : (cmpV x y = -1 ∧ decide (x = y) = false) ∨ (cmpV x y = 0 ∧ decide (x = y) = true) ∨ (cmpV x y = 1 ∧ decide (x = y) = false) := by
  have hz := cmp_zero x y
  have hb : cmpV x y = -1 ∨ cmpV x y = 0 ∨ cmpV x y = 1 := by
    have := cmpV_le x y; omega
  rcases hb with h | h | h <;> rw [h] at hz ⊢ <;> simp at hz <;> simp [hz]
theorem says_neg {x y : Tm} : Says 37 #[tmV y, tmV x] (.int .i64 (-(cmpV x y))) := fun W => by
  have h := pcompare_at y x W
  rw [cmp_anti y x] at h
  exact h

theorem rises_at (c : Cs) (w : World) (hg : Glob w) (h : c.ok) :
    Calls Tryz.prog 9 #[csV c] w fun e w' => e = .returned (.bool true) ∧ Below w.heap.size w w' := by
  obtain ⟨op, oq, or, ot, ou, _⟩ := h
  obtain ⟨p, q, r, t, u, n⟩ := c
  refine rises_walk p.a p.b p.c q.a q.b q.c r.a r.b r.c t.a t.b t.c u.a u.b u.c n (sumT p t).a (sumT p t).b (sumT p t).c (sumT q u).a (sumT q u).b (sumT q u).c
    (fitsB p t) (fitsB q u) (aheadB t (sumT p t)) (aheadB t u) (aheadB (sumT p t) (sumT q u)) (decide (p = tm0)) (decide (p = q)) (aheadB p q) (aheadB q p) (cmpV p q) w hg
    (Lib.hid fun W => on_at p t op ot W) (Lib.hid fun W => on_at q u oq ou W) (Lib.hid fun W => later_at t (sumT p t) W) (Lib.hid fun W => later_at t u W) (Lib.hid fun W => later_at (sumT p t) (sumT q u) W)
    (Lib.hid fun W => advances_at p W) (Lib.hid fun W => pahead_at p q W) (Lib.hid fun W => pahead_at q p W) (Lib.hid fun W => pcompare_at p q W) (Lib.hid says_neg)
    (Lib.hid fun hok => ?_) (Lib.hid fun W => pt_neq p q W) (Lib.hid fun W => pt_eql p q W) (Lib.hid fun h1 h2 h3 => sum_rises h1 h2 h3) (Lib.hid fun h1 h2 => decide_eq_true (ahead_anti h1 h2)) (Lib.hid (cmp_sign p q)) (Lib.hid fun h1 => ahead_cmp h1)
  have hs := sum_ahead (p := p) (t := t) op hok
  refine ⟨hs.1, fun W => ?_⟩
  have he := tm_eql (sumT p t) t W
  rw [hs.2] at he
  exact he
end Go.Proofs.YtiiegpklpmogmaaGreatDoor
