/- PathWays: its plain facts and its walk joined. -/
import Derived.Test.YtiiegpklpmogmaaGreatDoorPa7
import Derived.Test.YtiiegpklpmogmaaGreatDoorPaRises
set_option linter.unusedVariables false
set_option linter.unusedSimpArgs false
namespace Go.Proofs.YtiiegpklpmogmaaGreatDoor
open Go.RowKit

theorem ways_at (c : Cs) (w : World) (hg : Glob w) (h : c.ok) :
    Calls Tryz.prog 8 #[csV c] w fun e w' => e = .returned (.bool true) ∧ Below w.heap.size w w' := by
  obtain ⟨op, oq, or, ot, ou, _⟩ := h
  obtain ⟨p, q, r, t, u, n⟩ := c
  have oa : (sumT p q).ok := sumT_ok op oq
  have od : (sumT q r).ok := sumT_ok oq or
  have ox : (sumT p t).ok := sumT_ok op ot
  have hc := sum_comm p q
  have g1 := sum_assoc op oq or
  have g2 := sum_assoc oq op ot
  rw [← hc.1, ← hc.2] at g2
  have z1 := sum_zero op
  have z2 := sum_zero ot
  refine ways_walk p.a p.b p.c q.a q.b q.c r.a r.b r.c t.a t.b t.c u.a u.b u.c n (sumT p q).a (sumT p q).b (sumT p q).c (sumT (sumT p q) r).a (sumT (sumT p q) r).b (sumT (sumT p q) r).c
    (sumT q r).a (sumT q r).b (sumT q r).c (sumT p (sumT q r)).a (sumT p (sumT q r)).b (sumT p (sumT q r)).c (sumT p t).a (sumT p t).b (sumT p t).c (sumT q (sumT p t)).a (sumT q (sumT p t)).b (sumT q (sumT p t)).c (sumT (sumT p q) t).a (sumT (sumT p q) t).b (sumT (sumT p q) t).c
    (fitsB p q) (fitsB (sumT p q) r) (fitsB q r) (fitsB p (sumT q r)) (fitsB p t) (fitsB q (sumT p t)) (fitsB (sumT p q) t) w hg
    (Lib.hid fun W => then_at p q op oq W) (Lib.hid fun W => ?_) (Lib.hid fun W => then_at (sumT p q) r oa or W) (Lib.hid fun W => then_at q r oq or W) (Lib.hid fun W => then_at p (sumT q r) op od W)
    (Lib.hid fun W => on_at p t op ot W) (Lib.hid fun W => on_at q (sumT p t) oq ox W) (Lib.hid fun W => on_at (sumT p q) t oa ot W) (Lib.hid fun W => ?_) (Lib.hid fun W => ?_)
    (Lib.hid fun W => ?_) (Lib.hid fun W => ?_) (Lib.hid fun W => ?_) (Lib.hid g1.1) (Lib.hid fun hl W => ?_) (Lib.hid ?_) (Lib.hid fun hl W => ?_)
  · have h := then_at q p oq op W
    rw [← hc.1, ← hc.2] at h
    exact h
  · have h := then_at p tm0 op (by unfold Tm.ok tm0; simp) W
    rw [z1.1, z1.2.1] at h
    exact h
  · have h := on_at tm0 t (by unfold Tm.ok tm0; simp) ot W
    rw [z2.2.2.1, z2.2.2.2] at h
    exact h
  · have h := pt_neq (sumT p q) (sumT p q) W
    rw [decide_eq_true rfl] at h
    exact h
  · have h := pt_eql p p W
    rw [decide_eq_true rfl] at h
    exact h
  · have h := tm_eql t t W
    rw [decide_eq_true rfl] at h
    exact h
  · have h := pt_neq (sumT (sumT p q) r) (sumT p (sumT q r)) W
    rw [decide_eq_true (g1.2 hl)] at h
    exact h
  · have h := g2.1
    rw [Bool.and_comm, h, Bool.and_comm]
  · have hl' : (fitsB (sumT p q) t && fitsB p q) = true := by rw [Bool.and_comm]; exact hl
    have h := tm_neq (sumT q (sumT p t)) (sumT (sumT p q) t) W
    rw [decide_eq_true (g2.2 hl').symm] at h
    exact h
end Go.Proofs.YtiiegpklpmogmaaGreatDoor
