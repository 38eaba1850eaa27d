/- A region that draws its order, as in Facts, each operation shown in a frame of which no more is known than the slots that it looks at: what it costs does not hang on the frame's size. -/
import Derived.Test.YtiiegpklpmogmaaGreatDoorFacts
set_option linter.unusedVariables false
set_option linter.unusedSimpArgs false
namespace Go.Proofs.YtiiegpklpmogmaaGreatDoor
open Go.RowKit Go.Sort

namespace Fct
variable {P : Program} {ops : Array Oper} {md : Region.Mode} {E : World → World → Prop}

/-- What slot t holds once the first k have come up, in the order of the text. -/
def rdF (ops : Array Oper) (us : Nat → Value) (a : Act) (t : Tmp) : Nat → Value
  | 0 => a.tmps.getD t undef
  | k + 1 => if dst ops k = some t then us k else rdF ops us a t k

theorem getD_put_self (a : Act) (t : Tmp) (v : Value) (h : t < a.tmps.size) : (a.put (some t) v).tmps.getD t undef = v := by
  simp [Act.put, Array.getD_eq_getD_getElem?, Array.getElem?_setIfInBounds_self_of_lt h]

theorem size_lex (us : Nat → Value) (k : Nat) (a : Act) : (lex ops us k a).tmps.size = a.tmps.size := size_puts _ _

theorem lex_rdF {n : Nat} {a : Act} (hd : ∀ i d, i < n → dst ops i = some d → d < a.tmps.size) (us : Nat → Value) (t : Tmp) : ∀ k, k ≤ n → (lex ops us k a).tmps.getD t undef = rdF ops us a t k := by
  intro k
  induction k with
  | zero => intro _; rfl
  | succ k ih =>
    intro hk
    rw [lex_succ]
    unfold rdF
    by_cases h : dst ops k = some t
    · rw [if_pos h, h]
      exact getD_put_self _ _ _ (by rw [size_lex]; exact hd k t (by omega) h)
    · rw [if_neg h, getD_put_ne _ _ _ _ h]
      exact ih (by omega)

/-- What is asked of one operation: its value, in whatever frame reads so. -/
def opVal (E : World → World → Prop) (P : Program) (o : Oper) (a : Act) (w : World) (R : Value → World → Prop) (O : Value → Nat → Prop) : Prop :=
  o.wp P a w (fun a' w' => ∃ v, a' = a.put o.dst v ∧ E w w' ∧ R v w' ∧ ∀ b, O v b → w.heap.size ≤ b ∧ b < w'.heap.size) (fun _ _ _ => False)

/-- What is asked of each operation of the head. -/
def obl (E : World → World → Prop) (P : Program) (md : Region.Mode) (ops : Array Oper) (w0 : World) (R : Nat → Value → World → Prop) (O : Nat → Value → Nat → Prop) (a0 : Act) : List Oper → Nat → Prop
  | [], _ => True
  | o :: rest, k => (∀ (us : Nat → Value) w, E w0 w → (∀ j, Region.waitsFor md ops k j = true → R j (us j) w) → ∀ a : Act, (∀ t, a.tmps.getD t undef = rdF ops us a0 t k) → opVal E P o a w (R k) (O k)) ∧ obl E P md ops w0 R O a0 rest (k + 1)

theorem obl_at {w0 : World} {R : Nat → Value → World → Prop} {O : Nat → Value → Nat → Prop} {a0 : Act} : ∀ (l : List Oper) (k : Nat), obl E P md ops w0 R O a0 l k → ∀ i o, l[i]? = some o →
    ∀ (us : Nat → Value) w, E w0 w → (∀ j, Region.waitsFor md ops (k + i) j = true → R j (us j) w) → ∀ a : Act, (∀ t, a.tmps.getD t undef = rdF ops us a0 t (k + i)) → opVal E P o a w (R (k + i)) (O (k + i))
  | [], k, _, i, o, ho => by simp at ho
  | p :: l, k, h, 0, o, ho => by
    obtain rfl : p = o := by simpa using ho
    exact h.1
  | p :: l, k, h, i + 1, o, ho => by
    have := obl_at l (k + 1) h.2 i o (by simpa using ho)
    rw [show k + 1 + i = k + (i + 1) by omega] at this
    exact this

/-- The frame once the listed ones have come up in the order of the text. -/
def fin (us : Nat → Value) : List Oper → Nat → Act → Act
  | [], _, a => a
  | o :: rest, k, a => fin us rest (k + 1) (a.put o.dst (us k))
theorem fin_eq (us : Nat → Value) (a0 : Act) : ∀ (l : List Oper) (k : Nat), (∀ j, j < l.length → l[j]? = ops[k + j]?) → fin us l k (lex ops us k a0) = lex ops us (k + l.length) a0
  | [], k, _ => rfl
  | o :: l, k, h => by
    have h0 : ops[k]? = some o := by simpa using (h 0 (by simp)).symm
    have hdk : dst ops k = o.dst := by simp [dst, h0]
    have ih := fin_eq us a0 l (k + 1) (fun j hj => by have := h (j + 1) (by simp; omega); simpa [Nat.add_assoc, Nat.add_comm 1 j] using this)
    show fin us l (k + 1) ((lex ops us k a0).put o.dst (us k)) = _
    rw [← hdk, ← lex_succ, ih]
    congr 1
    simp only [List.length_cons]; omega
end Fct

/-- **A region that draws its order**: the first n operations lay new blocks alone, each met once, in whatever world its forerunners leave and in whatever frame reads as theirs; the others follow in the order of the text. -/
theorem wp_region_facts2 {P : Program} {id : Nat} {Q : Exit → Act → World → Prop} {a : Act} {w : World} {l : List Oper} (n : Nat) (R : Nat → Value → World → Prop) (O : Nat → Value → Nat → Prop) (hm : P.follows .mixedOrders = true)
    (hB : Fct.factsB .any l.toArray n a.tmps.size = true) (hst : ∀ j v W W', R j v W → Below W.heap.size W W' → R j v W')
    (hop : Fct.obl (fun a b => Below a.heap.size a b) P .any l.toArray w R O a (l.take n) 0)
    (hen : ∀ (us : Nat → Value) (W : World), Below w.heap.size w W → (∀ j, j < n → R j (us j) W) → (∀ i j b, i < n → j < n → i ≠ j → O i (us i) b → ¬ O j (us j) b) → wpList P l.toArray Q (l.drop n) (Fct.fin us (l.take n) 0 a) W) : (Code.region id l.toArray true).wp P Q a w := by
  have hB' := hB
  simp only [Fct.factsB, Bool.and_eq_true, decide_eq_true_eq, Bool.or_eq_true, beq_iff_eq] at hB
  obtain ⟨⟨⟨⟨hn, hsel⟩, hcase⟩, hhead⟩, hseq⟩ := hB
  have hn' : n ≤ l.length := by simpa using hn
  have htl : (l.take n).length = n := by simp; omega
  have hdl : (l.drop n).length = l.toArray.size - n := by simp
  have hh : ∀ i, i < n → Fct.headB .any l.toArray n a.tmps.size i = true := fun i hi => List.all_eq_true.1 hhead i (List.mem_range.2 hi)
  have hds : ∀ i d, i < n → Fct.dst l.toArray i = some d → d < a.tmps.size := fun i d hi hd => by
    obtain ⟨o, d', ho, _, hd', hlt, _⟩ := Fct.headB_dst (hh i hi)
    have : Fct.dst l.toArray i = some d' := by simp only [Fct.dst, ho]; exact hd'
    rw [hd] at this
    injection this with this
    rw [this]; exact hlt
  have hfin : ∀ us : Nat → Value, Fct.fin us (l.take n) 0 a = Fct.lex l.toArray us n a := fun us => by
    have := Fct.fin_eq (ops := l.toArray) us a (l.take n) 0 (fun j hj => by
      have hj' : j < n := by rw [htl] at hj; exact hj
      simp [hj'])
    rw [htl, Nat.zero_add] at this
    exact this
  have inv0 : HeadInv .any l.toArray n (Array.replicate l.toArray.size false) :=
    ⟨by simp, fun j oj _ hl => (by rw [getD_replicate_false] at hl; cases hl), fun t _ ht => getD_in (by simpa using ht) (getD_replicate_false _ _)⟩
  have key := Fct.main (E := fun a b => Below a.heap.size a b) (fun _ _ _ h k => h.trans (k.mono h.size)) (fun _ _ h => h) (P := P) (md := .any) (Q := Q) (a0 := a) (w0 := w) (R := R) (O := O) (ops := l.toArray) hst hn hsel hcase hh
    (fun us i o hi ho W hW hR => by
      have ho' : (l.take n)[i]? = some o := by
        rw [List.getElem?_take, if_pos hi]
        simpa using ho
      have h1 := Fct.obl_at (l.take n) 0 hop i o ho' us W hW (by rw [Nat.zero_add]; exact hR) (Fct.lex l.toArray us i a) (fun t => by rw [Nat.zero_add]; exact Fct.lex_rdF hds us t i (Nat.le_of_lt hi))
      rw [Nat.zero_add] at h1
      exact h1) (l.toArray.size - n)
    (fun us a' w' ha hw hR hO => by
      subst ha
      have hX := hen us w' hw hR hO
      rw [hfin us] at hX
      have := wpAny_of_seq (md := .any) (Q' := Q) (l.drop n) n (Fct.listedTo l.toArray.size n) _ w' (fun j => by simp [List.getElem?_drop]) (by rw [hdl]; exact hseq) hX
      rwa [hdl] at this)
    n (Array.replicate l.toArray.size false) (fun _ => undef) { w with drawn := w.drawn + 1 } inv0
    (by
      rw [List.countP_eq_length.2]
      · simp
      · intro j hj
        have hjn := List.mem_range.1 hj
        have : j < l.toArray.size := by omega
        simp only [Array.getD_eq_getD_getElem?]
        have hj2 : j < l.length := by omega
        simp [hj2])
    ((Below.refl w.heap.size w).drew) (fun j _ hl => by rw [getD_replicate_false] at hl; cases hl) (fun j _ _ hl => by rw [getD_replicate_false] at hl; cases hl) (fun j _ _ _ _ _ hl => by rw [getD_replicate_false] at hl; cases hl)
  refine wp_region_any hm ?_
  have e0 : Fct.puts l.toArray (fun _ => undef) (fun j => (Array.replicate l.toArray.size false).getD j false) (List.range n) a = a := by
    have hnone : ∀ (ks : List Nat) (a : Act), Fct.puts l.toArray (fun _ => undef) (fun j => (Array.replicate l.toArray.size false).getD j false) ks a = a := by
      intro ks
      induction ks with
      | nil => intro a; rfl
      | cons k ks ih =>
        intro a
        show Fct.puts l.toArray _ _ ks (if (Array.replicate l.toArray.size false).getD k false = true then _ else a) = a
        rw [if_neg (by rw [getD_replicate_false]; simp)]
        exact ih a
    exact hnone _ _
  rw [e0, show n + (l.toArray.size - n) = l.toArray.size by omega] at key
  exact key
end Go.Proofs.YtiiegpklpmogmaaGreatDoor
