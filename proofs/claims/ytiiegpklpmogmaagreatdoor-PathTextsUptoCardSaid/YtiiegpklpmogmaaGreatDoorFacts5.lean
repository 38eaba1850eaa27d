/- A region that draws its order and lays new blocks alone, with guarded operations all of which run: what each operation comes up with is said by itself. -/
import Derived.Test.YtiiegpklpmogmaaGreatDoorFacts4
set_option linter.unusedVariables false
set_option linter.unusedSimpArgs false
namespace Go.Proofs.YtiiegpklpmogmaaGreatDoor
open Go.RowKit Go.Sort

namespace Fct
/-- What is asked of one operation: its value, in whatever frame reads so. -/
def opOnly (P : Program) (o : Oper) (a : Act) (w : World) (R : Value → World → Prop) : Prop :=
  o.wp P a w (fun a' w' => ∃ v, a' = a.put o.dst v ∧ Below w.heap.size w w' ∧ R v w') (fun _ _ _ => False)
def obl5 (P : Program) (md : Region.Mode) (ops : Array Oper) (w0 : World) (R : Nat → Value → World → Prop) (a0 : Act) : List Oper → Nat → Prop
  | [], _ => True
  | o :: rest, k => (∀ (us : Nat → Value) w, Below w0.heap.size w0 w → (∀ j, Region.waitsFor md ops k j = true → R j (us j) w) → ∀ a : Act, (∀ t, a.tmps.getD t undef = rdF ops us a0 t k) → opOnly P o a w (R k)) ∧ obl5 P md ops w0 R a0 rest (k + 1)

def inv5 (w0 : World) (R : Nat → Value → World → Prop) (L : Nat → Bool) (us : Nat → Value) (W : World) : Prop := Below w0.heap.size w0 W ∧ ∀ j, L j = true → R j (us j) W

theorem obl5_obl3 {P : Program} {md : Region.Mode} {ops : Array Oper} {w0 : World} {R : Nat → Value → World → Prop} {a0 : Act} (hst : ∀ j v W W', R j v W → Below W.heap.size W W' → R j v W') :
    ∀ (l : List Oper) (k : Nat), obl5 P md ops w0 R a0 l k → obl3 P md ops (inv5 w0 R) a0 l k
  | [], _, _ => trivial
  | o :: l, k, h => by
    refine ⟨fun L us w hLk hI hd hcl a hf => ?_, obl5_obl3 hst l (k + 1) h.2⟩
    have h1 := h.1 us w hI.1 (fun j hj => hI.2 j (hd j hj)) a hf
    unfold opOnly at h1
    refine Oper.wp_mono (fun a' w' hh => ?_) h1
    obtain ⟨v, e, hb, hr⟩ := hh
    refine ⟨v, e, hI.1.trans (hb.mono hI.1.size), fun j hj => ?_⟩
    unfold mark at hj
    unfold laid
    by_cases hjk : j = k
    · subst hjk; simpa using hr
    · simp only [if_neg hjk] at hj ⊢
      exact hst j _ _ _ (hI.2 j hj) hb

/-- Every guard is one of those that are known to hold. -/
def guardsB (l : List Oper) (g : Nat → Option Bool) : Bool := l.all fun o => match o.guard with | none => true | some (j, b) => g j == some b
theorem guardsB_at {l : List Oper} {g : Nat → Option Bool} (h : guardsB l g = true) {i : Nat} {o : Oper} {j : Nat} {b : Bool} (ho : l[i]? = some o) (hg : o.guard = some (j, b)) : g j = some b := by
  have := List.all_eq_true.1 h o (List.mem_of_getElem? ho)
  rw [hg] at this
  simpa using this
end Fct

/-- **A region that draws its order and lays new blocks alone, with guarded operations all of which run.** -/
theorem wp_region_facts5 {P : Program} {id : Nat} {Q : Exit → Act → World → Prop} {a : Act} {w : World} {l : List Oper} (n : Nat) (R : Nat → Value → World → Prop) (g : Nat → Option Bool) (hm : P.follows .mixedOrders = true)
    (hB : Fct.factsB4 .any l.toArray n a.tmps.size = true) (hG : Fct.guardsB l g = true) (hg : ∀ j b v W, g j = some b → R j v W → v = .bool b) (hst : ∀ j v W W', R j v W → Below W.heap.size W W' → R j v W')
    (hop : Fct.obl5 P .any l.toArray w R a (l.take n) 0)
    (hen : ∀ (us : Nat → Value) (W : World), Below w.heap.size w W → (∀ j, j < n → R j (us j) W) → wpList P l.toArray Q (l.drop n) (Fct.fin us (l.take n) 0 a) W) : (Code.region id l.toArray true).wp P Q a w :=
  wp_region_facts4 n (Fct.inv5 w R) hm hB (fun us => ⟨(Below.refl w.heap.size w).drew, fun j h => by cases h⟩)
    (fun L us W hI i o j b hi ho hgo hL => hg j b _ W (Fct.guardsB_at hG ho hgo) (hI.2 j hL))
    (Fct.obl5_obl3 hst _ 0 hop) (fun L us W hL hI => hen us W hI.1 (fun j hj => hI.2 j (hL j hj)))
end Go.Proofs.YtiiegpklpmogmaaGreatDoor
