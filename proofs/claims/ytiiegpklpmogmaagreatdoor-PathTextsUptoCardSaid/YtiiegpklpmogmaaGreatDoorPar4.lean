/- Four fields copied side by side, in whatever order: what stands while they are. -/
import Derived.Test.YtiiegpklpmogmaaGreatDoorFacts3
set_option linter.unusedVariables false
set_option linter.unusedSimpArgs false
namespace Go.Proofs.YtiiegpklpmogmaaGreatDoor
open Go.RowKit Go.Sort

/-- Four fields (operations 0 to 7 look, 8 to 11 lay a block each, 12 to 15 write). -/
def Par4 (w0 : World) (Pp : Nat → Value) (cs : Nat → Array Value) (z : Array Value) (ty : Nat → TypeId) (L : Nat → Bool) (us : Nat → Value) (W : World) : Prop :=
  Below w0.heap.size w0 W ∧
  (∀ i, i < 4 → L (2 * i) = true → us (2 * i) = Pp i) ∧
  (∀ i, i < 4 → L (2 * i + 1) = true → us (2 * i + 1) = .agg (cs i)) ∧
  (∀ i, i < 4 → L (8 + i) = true → ∃ k, us (8 + i) = .pointer (some ⟨k, 0, none⟩) ∧ w0.heap.size ≤ k ∧ Blk W k (cond (L (12 + i)) (cs i) z) (ty i)) ∧
  (∀ i j, i < 4 → j < 4 → i ≠ j → L (8 + i) = true → L (8 + j) = true → us (8 + i) ≠ us (8 + j))

variable {w0 : World} {Pp : Nat → Value} {cs : Nat → Array Value} {z : Array Value} {ty : Nat → TypeId} {L : Nat → Bool} {us : Nat → Value} {W : World}

theorem Par4.start : Par4 w0 Pp cs z ty (fun _ => false) us { w0 with drawn := w0.drawn + 1 } :=
  by
  refine ⟨(Below.refl w0.heap.size w0).drew, ?_, ?_, ?_, ?_⟩
  · intro i hi h; cases h
  · intro i hi h; cases h
  · intro i hi h; cases h
  · intro i j hi hj hij h; cases h

theorem Par4.addr {i : Nat} (hi : i < 4) (h : Par4 w0 Pp cs z ty L us W) : Par4 w0 Pp cs z ty (Fct.mark L (2 * i)) (Fct.laid us (2 * i) (Pp i)) W := by
  obtain ⟨h0, h1, h2, h3, h4⟩ := h
  refine ⟨h0, fun j hj hL => ?_, fun j hj hL => ?_, fun j hj hL => ?_, fun j k hj hk hjk hL hL' => ?_⟩
  · simp only [Fct.mark, Fct.laid] at hL ⊢
    by_cases e : 2 * j = 2 * i
    · rw [if_pos e]; rw [show i = j by omega]
    · rw [if_neg e] at hL ⊢; exact h1 j hj hL
  · simp only [Fct.mark, Fct.laid] at hL ⊢
    rw [if_neg (by omega)] at hL ⊢; exact h2 j hj hL
  · simp only [Fct.mark, Fct.laid] at hL ⊢
    rw [if_neg (by omega)] at hL
    rw [if_neg (by omega), if_neg (by omega : ¬ 12 + j = 2 * i)]
    exact h3 j hj hL
  · simp only [Fct.mark, Fct.laid] at hL hL' ⊢
    rw [if_neg (by omega)] at hL hL'
    rw [if_neg (by omega), if_neg (by omega)]
    exact h4 j k hj hk hjk hL hL'

theorem Par4.look {i : Nat} (hi : i < 4) (h : Par4 w0 Pp cs z ty L us W) : Par4 w0 Pp cs z ty (Fct.mark L (2 * i + 1)) (Fct.laid us (2 * i + 1) (.agg (cs i))) W := by
  obtain ⟨h0, h1, h2, h3, h4⟩ := h
  refine ⟨h0, fun j hj hL => ?_, fun j hj hL => ?_, fun j hj hL => ?_, fun j k hj hk hjk hL hL' => ?_⟩
  · simp only [Fct.mark, Fct.laid] at hL ⊢
    rw [if_neg (by omega)] at hL ⊢; exact h1 j hj hL
  · simp only [Fct.mark, Fct.laid] at hL ⊢
    by_cases e : 2 * j + 1 = 2 * i + 1
    · rw [if_pos e]; rw [show i = j by omega]
    · rw [if_neg e] at hL ⊢; exact h2 j hj hL
  · simp only [Fct.mark, Fct.laid] at hL ⊢
    rw [if_neg (by omega)] at hL
    rw [if_neg (by omega), if_neg (by omega : ¬ 12 + j = 2 * i + 1)]
    exact h3 j hj hL
  · simp only [Fct.mark, Fct.laid] at hL hL' ⊢
    rw [if_neg (by omega)] at hL hL'
    rw [if_neg (by omega), if_neg (by omega)]
    exact h4 j k hj hk hjk hL hL'

theorem Par4.new {i : Nat} (hi : i < 4) (hn : L (12 + i) = false) (h : Par4 w0 Pp cs z ty L us W) :
    Par4 w0 Pp cs z ty (Fct.mark L (8 + i)) (Fct.laid us (8 + i) (.pointer (some ⟨W.heap.size, 0, none⟩))) (W.alloc (.cells z (ty i))) := by
  obtain ⟨h0, h1, h2, h3, h4⟩ := h
  refine ⟨h0.alloc h0.size _, fun j hj hL => ?_, fun j hj hL => ?_, fun j hj hL => ?_, fun j k hj hk hjk hL hL' => ?_⟩
  · simp only [Fct.mark, Fct.laid] at hL ⊢
    rw [if_neg (by omega)] at hL ⊢; exact h1 j hj hL
  · simp only [Fct.mark, Fct.laid] at hL ⊢
    rw [if_neg (by omega)] at hL ⊢; exact h2 j hj hL
  · simp only [Fct.mark, Fct.laid] at hL ⊢
    rw [if_neg (by omega : ¬ 12 + j = 8 + i)]
    by_cases e : 8 + j = 8 + i
    · obtain rfl : j = i := by omega
      rw [if_pos rfl, hn]
      exact ⟨_, rfl, h0.size, by simpa using Blk.new W z (ty j)⟩
    · rw [if_neg e] at hL ⊢
      obtain ⟨k, e1, e2, e3⟩ := h3 j hj hL
      exact ⟨k, e1, e2, e3.alloc _⟩
  · simp only [Fct.mark, Fct.laid] at hL hL' ⊢
    by_cases e : 8 + j = 8 + i
    · rw [if_pos e, if_neg (by omega)]
      rw [if_neg (by omega)] at hL'
      obtain ⟨k', e1, e2, e3⟩ := h3 k hk hL'
      rw [e1]
      intro hh
      have := e3.lt
      injection hh with hh; injection hh with hh; injection hh with hh
      omega
    · by_cases e' : 8 + k = 8 + i
      · rw [if_neg e, if_pos e']
        rw [if_neg e] at hL
        obtain ⟨k', e1, e2, e3⟩ := h3 j hj hL
        rw [e1]
        intro hh
        have := e3.lt
        injection hh with hh; injection hh with hh; injection hh with hh
        omega
      · rw [if_neg e] at hL
        rw [if_neg e'] at hL'
        rw [if_neg e, if_neg e']
        exact h4 j k hj hk hjk hL hL'

theorem Par4.ptr {i : Nat} (hi : i < 4) (h : Par4 w0 Pp cs z ty L us W) (hl : L (8 + i) = true) (hn : L (12 + i) = false) : ∃ k, us (8 + i) = .pointer (some ⟨k, 0, none⟩) ∧ w0.heap.size ≤ k ∧ Blk W k z (ty i) := by
  obtain ⟨k, e1, e2, e3⟩ := h.2.2.2.1 i hi hl
  rw [hn] at e3
  exact ⟨k, e1, e2, by simpa using e3⟩

theorem Par4.write {i k : Nat} {x0 x1 x2 v z0 z1 z2 : Value} (hi : i < 4) (h : Par4 w0 Pp cs #[z0, z1, z2] ty L us W) (hl : L (8 + i) = true) (hn : L (12 + i) = false) (hk : us (8 + i) = .pointer (some ⟨k, 0, none⟩)) (hkw : w0.heap.size ≤ k) (hb : Blk W k #[z0, z1, z2] (ty i)) (hc : cs i = #[x0, x1, x2]) :
    Par4 w0 Pp cs #[z0, z1, z2] ty (Fct.mark L (12 + i)) (Fct.laid us (12 + i) v) (((W.setCell ⟨k, 0, none⟩ x0).setCell ⟨k, 1, none⟩ x1).setCell ⟨k, 2, none⟩ x2) := by
  obtain ⟨h0, h1, h2, h3, h4⟩ := h
  refine ⟨((h0.setCell (p := ⟨k, 0, none⟩) hkw _).setCell (p := ⟨k, 1, none⟩) hkw _).setCell (p := ⟨k, 2, none⟩) hkw _, fun j hj hL => ?_, fun j hj hL => ?_, fun j hj hL => ?_, fun j k hj hk hjk hL hL' => ?_⟩
  · simp only [Fct.mark, Fct.laid] at hL ⊢
    rw [if_neg (by omega)] at hL ⊢; exact h1 j hj hL
  · simp only [Fct.mark, Fct.laid] at hL ⊢
    rw [if_neg (by omega)] at hL ⊢; exact h2 j hj hL
  · simp only [Fct.mark, Fct.laid] at hL ⊢
    rw [if_neg (by omega : ¬ 8 + j = 12 + i)] at hL
    rw [if_neg (by omega : ¬ 8 + j = 12 + i)]
    by_cases e : 12 + j = 12 + i
    · obtain rfl : j = i := by omega
      rw [if_pos rfl]
      refine ⟨k, hk, hkw, ?_⟩
      show Blk _ k (cs j) (ty j)
      rw [hc]
      exact ((hb.set 0 x0).set 1 x1).set 2 x2
    · rw [if_neg e]
      obtain ⟨k', e1, e2, e3⟩ := h3 j hj hL
      have hne : k' ≠ k := by
        intro e'
        subst e'
        exact h4 j i hj hi (by omega) hL hl (by rw [e1, hk])
      exact ⟨k', e1, e2, ((e3.setOther ⟨k, 0, none⟩ x0 hne).setOther ⟨k, 1, none⟩ x1 hne).setOther ⟨k, 2, none⟩ x2 hne⟩
  · simp only [Fct.mark, Fct.laid] at hL hL' ⊢
    rw [if_neg (by omega)] at hL hL'
    rw [if_neg (by omega), if_neg (by omega)]
    exact h4 j k hj hk hjk hL hL'

/-- At the end. -/
theorem Par4.done (h : Par4 w0 Pp cs z ty L us W) (hL : ∀ j, j < 16 → L j = true) : ∃ p q r s : Nat, us 8 = .pointer (some ⟨p, 0, none⟩) ∧ us 9 = .pointer (some ⟨q, 0, none⟩) ∧ us 10 = .pointer (some ⟨r, 0, none⟩) ∧ us 11 = .pointer (some ⟨s, 0, none⟩) ∧
    Blk W p (cs 0) (ty 0) ∧ Blk W q (cs 1) (ty 1) ∧ Blk W r (cs 2) (ty 2) ∧ Blk W s (cs 3) (ty 3) ∧ Below w0.heap.size w0 W := by
  obtain ⟨h0, h1, h2, h3, h4⟩ := h
  have g := fun i hi => h3 i hi (hL _ (by omega))
  obtain ⟨p, e0, _, b0⟩ := g 0 (by omega)
  obtain ⟨q, e1, _, b1⟩ := g 1 (by omega)
  obtain ⟨r, e2, _, b2⟩ := g 2 (by omega)
  obtain ⟨s, e3, _, b3⟩ := g 3 (by omega)
  rw [hL _ (by omega)] at b0 b1 b2 b3
  exact ⟨p, q, r, s, e0, e1, e2, e3, by simpa using b0, by simpa using b1, by simpa using b2, by simpa using b3, h0⟩
/-- Where the four fields stand; what they hold; of which types they are. -/
def offP (b : Nat) (os : List Nat) (i : Nat) : Value := .pointer (some ⟨b, os.getD i 0, none⟩)
def rowsP (l : List (Array Value)) (i : Nat) : Array Value := l.getD i #[]
def tysP (l : List Nat) (i : Nat) : TypeId := l.getD i 0
end Go.Proofs.YtiiegpklpmogmaaGreatDoor
