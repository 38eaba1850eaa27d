/- Small words for the walks of this seat: a block known whole; rows of elements that are read; rows of flat elements of the call's own. -/
import Derived.WalkKit
import Derived.WalkSpells
import Derived.WalkLawsBesides
import Derived.Lib.Hide
import Derived.BigQuiet
import Derived.Deep.QuietTactic
import Derived.Deep.LoopGhost
import Derived.Deep.Draws
import Derived.LoopN
import Derived.Laws.EntriesVeiled
import Derived.Deep.RegionHeld3
import Derived.Deep.RegionWith
import Derived.Deep.DeepFit
import Derived.Lib.QuietBelow
import Derived.KernelRfl
set_option linter.unusedVariables false
set_option linter.unusedSimpArgs false
namespace Go.Proofs.YtiiegpklpmogmaaGreatDoor
open Go.RowKit Go.Sort

/-! ### A block known whole -/

/-- Block k of w holds just these cells of type t, none of them marked. -/
def Blk (w : World) (k : Nat) (cs : Array Value) (t : Nat) : Prop := w.heap[k]? = some (.cells cs t (0, 0))

namespace Blk
variable {w w' : World} {k t B : Nat} {cs : Array Value}
theorem lt (h : Blk w k cs t) : k < w.heap.size := (Array.getElem?_eq_some_iff.1 h).1
theorem cell (h : Blk w k cs t) (i : Nat) (v : Value) (hi : cs[i]? = some v) : w.cell? ⟨k, i, none⟩ = some v := by
  unfold Blk at h
  simp [World.cell?, h, hi]
theorem frozen (h : Blk w k cs t) (i : Nat) : w.frozen? ⟨k, i, none⟩ = false := by
  unfold Blk at h
  simp [World.frozen?, h]
theorem below (h : Blk w k cs t) (hb : Below B w w') (hk : k < B) : Blk w' k cs t := (hb.block k hk).trans h
theorem later (h : Blk w k cs t) (hb : Below w.heap.size w w') : Blk w' k cs t := h.below hb h.lt
theorem new (w : World) (cs : Array Value) (t : Nat) : Blk (w.alloc (.cells cs t)) w.heap.size cs t := heap_alloc_new w _
theorem alloc (h : Blk w k cs t) (o : Obj) : Blk (w.alloc o) k cs t := (Below.heap_alloc w o k h.lt).trans h
theorem drew (h : Blk w k cs t) : Blk w.drew k cs t := h
theorem drewN (h : Blk w k cs t) (n : Nat) : Blk (w.drewN n) k cs t := h
theorem set (h : Blk w k cs t) (i : Nat) (v : Value) : Blk (w.setCell ⟨k, i, none⟩ v) k (cs.setIfInBounds i v) t := by
  unfold Blk at h ⊢
  simp [World.setCell, Array.getElem?_modify, h]
theorem setOther (h : Blk w k cs t) (p : Addr) (v : Value) (hk : k ≠ p.block) : Blk (w.setCell p v) k cs t :=
  (Below.heap_setCell w p v k hk).trans h
theorem grown (h : Blk w k cs t) {row : Option Nat} (hg : w.grownBy w' row) (hne : some k ≠ row) : Blk w' k cs t :=
  (hg.block k h.lt hne).trans h
end Blk

theorem Bel.drewN {B : Nat} {a w : World} (h : Below B a w) (n : Nat) : Below B a (w.drewN n) := ⟨h.os, h.tape, h.output, h.size, h.block⟩
theorem Bel.step {B : Nat} {a b c : World} (h : Below B a b) (k : Below b.heap.size b c) (hB : B ≤ b.heap.size) : Below B a c := h.trans (k.mono hB)
theorem Bel.step' {a b c : World} (h : Below a.heap.size a b) (k : Below b.heap.size b c) : Below a.heap.size a c := h.trans (k.mono h.size)
theorem Bel.cells {B : Nat} {W w1 : World} (hb : Below B W w1) : (∀ b o, b < B → w1.cell? ⟨b, o, none⟩ = W.cell? ⟨b, o, none⟩) ∧ (∀ b o, b < B → w1.frozen? ⟨b, o, none⟩ = W.frozen? ⟨b, o, none⟩) :=
  ⟨fun b o h => hb.cell (p := ⟨b, o, none⟩) h, fun b o h => hb.frozen (p := ⟨b, o, none⟩) h⟩

theorem Bel.alloc' {a w : World} (h : Below a.heap.size a w) (o : Obj) : Below a.heap.size a (w.alloc o) := h.alloc h.size o
/-- A call whose contract is said of every later world, met in a region that draws its order. -/
theorem quiet_call {P : Program} {f : FuncId} {args : Array Value} {X : World} {v : Value} (h : ∀ W, Below X.heap.size X W → Calls P f args W fun e w' => e = .returned v ∧ Below W.heap.size W w') :
    ∀ d os, Calls P f args (grow (redrawn X d) os) fun e w'' => e = .returned v ∧ ∃ p : Regrown, w'' = grow (redrawn X p.d) p.os :=
  fun d os => Calls.regrown_of (h _ (below_regrown X d os))
theorem ret_int {k : IntKind} {a b : Int} (h : a = b) : Ending.returned (.int k a) = .returned (.int k b) := by rw [h]
theorem ret_bool {a b : Bool} (h : a = b) : Ending.returned (.bool a) = .returned (.bool b) := by rw [h]

/-! ### What is read -/

/-- How an element stands in memory: its cells, and the blocks (S) through which it goes on. -/
structure Rp (α : Type) where
  sz : Nat
  K : World → (Nat → Prop) → α → List Value → Prop
  len : ∀ {w S x cs}, K w S x cs → cs.length = sz
  keep : ∀ {w w' : World} {S x cs}, K w S x cs → (∀ k, S k → k < w.heap.size → w'.heap[k]? = w.heap[k]?) → K w' S x cs
  mono : ∀ {w S S' x cs}, K w S x cs → (∀ k, S k → S' k) → K w S' x cs

/-- An element whose cells hang on its data alone. -/
def Rp.flat {α : Type} (sz : Nat) (enc : α → List Value) (h : ∀ x, (enc x).length = sz) : Rp α where
  sz := sz
  K := fun _ _ x cs => cs = enc x
  len := fun e => by rw [e, h]
  keep := fun e _ => e
  mono := fun e _ => e

/-- The slice value (A, n, c) reads as xs in w, through blocks of S alone. -/
def Rd {α : Type} (d : Rp α) (w : World) (S : Nat → Prop) (A : Option Addr) (n c : Nat) (xs : List α) : Prop :=
  xs.length = n ∧ n ≤ c ∧ c ≤ maxLen ∧ (0 < n → ∃ b off cells t fr, A = some ⟨b, off, none⟩ ∧ S b ∧ w.heap[b]? = some (.cells cells t fr) ∧
    ∀ i x, xs[i]? = some x → ∃ cs, d.K w S x cs ∧ ∀ j v, cs[j]? = some v → cells[off + i * d.sz + j]? = some v)

namespace Rd
variable {α : Type} {d : Rp α} {w w' : World} {S S' : Nat → Prop} {A : Option Addr} {n c : Nat} {xs : List α}
theorem length (h : Rd d w S A n c xs) : xs.length = n := h.1
theorem le (h : Rd d w S A n c xs) : n ≤ c := h.2.1
theorem small (h : Rd d w S A n c xs) : c ≤ 9223372036854775807 := by have := h.2.2.1; unfold maxLen at this; omega
theorem keep (h : Rd d w S A n c xs) (hk : ∀ k, S k → k < w.heap.size → w'.heap[k]? = w.heap[k]?) : Rd d w' S A n c xs := by
  obtain ⟨h1, h2, h3, h4⟩ := h
  refine ⟨h1, h2, h3, fun hn => ?_⟩
  obtain ⟨b, off, cells, t, fr, e, hS, hb, hx⟩ := h4 hn
  refine ⟨b, off, cells, t, fr, e, hS, (hk b hS (Array.getElem?_eq_some_iff.1 hb).1).trans hb, fun i x hi => ?_⟩
  obtain ⟨cs, hK, hc⟩ := hx i x hi
  exact ⟨cs, d.keep hK hk, hc⟩
theorem mono (h : Rd d w S A n c xs) (hS : ∀ k, S k → S' k) : Rd d w S' A n c xs := by
  obtain ⟨h1, h2, h3, h4⟩ := h
  refine ⟨h1, h2, h3, fun hn => ?_⟩
  obtain ⟨b, off, cells, t, fr, e, hb, hw, hx⟩ := h4 hn
  refine ⟨b, off, cells, t, fr, e, hS b hb, hw, fun i x hi => ?_⟩
  obtain ⟨cs, hK, hc⟩ := hx i x hi
  exact ⟨cs, d.mono hK hS, hc⟩
theorem below (h : Rd d w S A n c xs) (hb : Below w.heap.size w w') : Rd d w' S A n c xs := h.keep fun k _ hk => hb.block k hk
/-- An element's cells: the address is spelt as the walk spells it. -/
theorem at_ (h : Rd d w S A n c xs) (i : Nat) (hi : i < n) : ∃ b off x cs, A = some ⟨b, off, none⟩ ∧ xs[i]? = some x ∧ d.K w S x cs ∧ b < w.heap.size ∧ S b ∧ ∀ j v, cs[j]? = some v → w.cell? ⟨b, off + i * d.sz + j, none⟩ = some v := by
  obtain ⟨h1, h2, h3, h4⟩ := h
  obtain ⟨b, off, cells, t, fr, e, hS, hb, hx⟩ := h4 (by omega)
  have hxi : xs[i]? = some xs[i] := List.getElem?_eq_getElem (by omega)
  obtain ⟨cs, hK, hc⟩ := hx i _ hxi
  exact ⟨b, off, _, cs, e, hxi, hK, (Array.getElem?_eq_some_iff.1 hb).1, hS, fun j v hv => by simp [World.cell?, hb, hc j v hv]⟩
theorem take (h : Rd d w S A n c xs) {k : Nat} (hk : k ≤ n) : Rd d w S A k c (xs.take k) := by
  obtain ⟨h1, h2, h3, h4⟩ := h
  refine ⟨by simp; omega, by omega, h3, fun hn => ?_⟩
  obtain ⟨b, off, cells, t, fr, e, hS, hb, hx⟩ := h4 (by omega)
  refine ⟨b, off, cells, t, fr, e, hS, hb, fun i x hi => ?_⟩
  rw [List.getElem?_take] at hi
  split at hi
  · exact hx i x hi
  · cases hi
theorem nil (d : Rp α) (w : World) (S : Nat → Prop) : Rd d w S none 0 0 [] := ⟨rfl, Nat.le_refl _, Nat.zero_le _, fun h => absurd h (Nat.lt_irrefl 0)⟩
end Rd

/-! ### Rows of flat elements of the call's own -/

theorem flat_get {α : Type} (enc : α → List Value) (sz : Nat) (hl : ∀ x, (enc x).length = sz) : ∀ (xs : List α) (i : Nat) (x : α), xs[i]? = some x → ∀ j v, (enc x)[j]? = some v → (xs.flatMap enc)[i * sz + j]? = some v := by
  intro xs
  induction xs with
  | nil => intro i x h; simp at h
  | cons y ys ih =>
    intro i x h j v hv
    cases i with
    | zero =>
      simp at h
      subst h
      have hj : j < (enc y).length := (List.getElem?_eq_some_iff.1 hv).1
      simp [List.flatMap_cons, List.getElem?_append_left hj, hv]
    | succ i =>
      simp at h
      have := ih i x h j v hv
      rw [List.flatMap_cons, List.getElem?_append_right (by rw [hl]; rw [Nat.succ_mul]; omega), hl]
      rw [show (i + 1) * sz + j - sz = i * sz + j by rw [Nat.succ_mul]; omega]
      exact this

theorem flat_length {α : Type} (enc : α → List Value) (sz : Nat) (hl : ∀ x, (enc x).length = sz) (xs : List α) : (xs.flatMap enc).length = xs.length * sz := by
  induction xs with
  | nil => simp
  | cons y ys ih => rw [List.flatMap_cons, List.length_append, ih, hl, List.length_cons, Nat.succ_mul]; omega

/-- What is owned reads. -/
theorem own_rd {α : Type} {sz : Nat} {enc : α → List Value} {hl : ∀ x, (enc x).length = sz} {w : World} {base : Nat} {e : TypeId} {v : Value} {xs : List α} (h : w.ownsRow base e sz v xs.length (xs.flatMap enc)) :
    ∃ A c, v = .slice A xs.length c ∧ Rd (Rp.flat sz enc hl) w (fun k => some k = v.ownBlock) A xs.length c xs := by
  rcases h.2 with ⟨rfl, h0⟩ | ⟨g, cap, cur, rfl, hb, hg, hn, hm, hs, ht⟩
  · have : xs = [] := List.eq_nil_of_length_eq_zero h0
    subst this
    exact ⟨none, 0, rfl, Rd.nil _ _ _⟩
  · refine ⟨_, cap, rfl, rfl, hn, hm, fun _ => ⟨g, 0, cur, e, (0, 0), rfl, rfl, hg, fun i x hi => ⟨enc x, rfl, fun j u hu => ?_⟩⟩⟩
    have := flat_get enc sz hl xs i x hi j u hu
    rw [← ht, List.getElem?_take] at this
    split at this
    · show cur[0 + i * sz + j]? = _
      rw [Nat.zero_add]
      simpa using this
    · cases this
end Go.Proofs.YtiiegpklpmogmaaGreatDoor
