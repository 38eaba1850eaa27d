/- StampOrders, walked: the walk and the plain laws joined. -/
import Derived.Test.YtiiegpklpmogmaaDoorSt17
set_option linter.unusedVariables false
set_option linter.unusedSimpArgs false
namespace Go.Proofs.YtiiegpklpmogmaaDoor
open Go.RowKit

theorem orders_at (a b c : Tm) (w : World) (hg : Glob w) : Calls Tryd.prog 6 #[tmV a, tmV b, tmV c] w fun e w' => e = .returned (.bool true) ∧ Below w.heap.size w w' := by
  have hall := orders_walk a.a a.b a.c b.a b.b b.c c.a c.b c.c (joinV a b).a (joinV a b).b (joinV a b).c (meetV a b).a (meetV a b).b (meetV a b).c
    (aheadB a b) (aheadB b a) (aheadB b c) (aheadB a c) (aheadB c a) (aheadB c b) (aheadB (joinV a b) c) (aheadB c (meetV a b)) (decide (a = b)) (decide (joinV a b = b)) (decide (meetV a b = a))
    (cmpV a b) (cmpV b a) (cmpV b c) (cmpV a c) w hg
    (fun W => ahead_at a b W) (fun W => ahead_at b a W) (fun W => ahead_at b c W) (fun W => ahead_at a c W) (fun W => ahead_at c a W) (fun W => ahead_at c b W)
    (fun W => by have h := ahead_at a a W; rw [ahead_refl] at h; exact h)
    (fun W => by have h := ahead_at a (joinV a b) W; rw [ahead_joinl] at h; exact h)
    (fun W => by have h := ahead_at b (joinV a b) W; rw [ahead_joinr] at h; exact h)
    (fun W => by have h := ahead_at (meetV a b) a W; rw [ahead_meetl] at h; exact h)
    (fun W => by have h := ahead_at (meetV a b) b W; rw [ahead_meetr] at h; exact h)
    (fun W => ahead_at (joinV a b) c W) (fun W => ahead_at c (meetV a b) W)
    (fun W => compare_at a b W) (fun W => compare_at b a W) (fun W => compare_at b c W) (fun W => compare_at a c W)
    (fun W => join_at a b W) (fun W => meet_at a b W)
    (fun W => tm_eql a b W) (fun W => tm_eql (joinV a b) b W) (fun W => tm_eql (meetV a b) a W)
    (ahead_both a b) (fun h1 h2 => ahead_trans h1 h2)
    (by have h1 := cmp_anti a b; have h2 := cmpV_le a b; omega)
    (cmp_zero a b) (fun h => ahead_cmp h) (fun h1 h2 => cmp_trans h1 h2) (join_ahead a b c) (meet_ahead a b c) (ahead_join a b) (ahead_meet a b)
  exact hall

theorem orders_ok (a b c : Tm) (w : World) (hg : Glob w) (_ : a.ok) (_ : b.ok) (_ : c.ok) : Calls Tryd.prog 6 #[tmV a, tmV b, tmV c] w fun e w' => e = .returned (.bool true) ∧ Below w.heap.size w w' := orders_at a b c w hg
end Go.Proofs.YtiiegpklpmogmaaDoor
