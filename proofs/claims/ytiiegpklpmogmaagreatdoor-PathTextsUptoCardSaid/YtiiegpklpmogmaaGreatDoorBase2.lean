/- Rows as lists of elements' cells: what is read, what is owned. -/
import Derived.Test.YtiiegpklpmogmaaGreatDoorBase
import Derived.OwnWalk
set_option linter.unusedVariables false
set_option linter.unusedSimpArgs false
namespace Go.Proofs.YtiiegpklpmogmaaGreatDoor
open Go.RowKit Go.Sort

theorem flatten_get (sz : Nat) : ∀ (css : List (List Value)), (∀ cs ∈ css, cs.length = sz) → ∀ (i : Nat) (cs : List Value), css[i]? = some cs → ∀ (j : Nat) (v : Value), cs[j]? = some v → css.flatten[i * sz + j]? = some v := by
  intro css
  induction css with
  | nil => intro _ i cs h; simp at h
  | cons y ys ih =>
    intro hl i cs h j v hv
    have hy : y.length = sz := hl y List.mem_cons_self
    cases i with
    | zero =>
      simp at h
      subst h
      have hj : j < y.length := (List.getElem?_eq_some_iff.1 hv).1
      simp [List.flatten_cons, List.getElem?_append_left hj, hv]
    | succ i =>
      simp at h
      have := ih (fun c hc => hl c (List.mem_cons_of_mem _ hc)) i cs h j v hv
      rw [List.flatten_cons, List.getElem?_append_right (by rw [hy, Nat.succ_mul]; omega), hy]
      rw [show (i + 1) * sz + j - sz = i * sz + j by rw [Nat.succ_mul]; omega]
      exact this

theorem flatten_length (sz : Nat) : ∀ (css : List (List Value)), (∀ cs ∈ css, cs.length = sz) → css.flatten.length = css.length * sz := by
  intro css
  induction css with
  | nil => intro _; simp
  | cons y ys ih =>
    intro hl
    rw [List.flatten_cons, List.length_append, ih (fun c hc => hl c (List.mem_cons_of_mem _ hc)), hl y List.mem_cons_self, List.length_cons, Nat.succ_mul]
    omega

/-- Which element a cell belongs to. -/
theorem flatten_at (sz : Nat) (hs : 0 < sz) : ∀ (css : List (List Value)), (∀ cs ∈ css, cs.length = sz) → ∀ (m : Nat) (v : Value), css.flatten[m]? = some v → ∃ cs, css[m / sz]? = some cs ∧ cs[m % sz]? = some v := by
  intro css
  induction css with
  | nil => intro _ m v h; simp at h
  | cons y ys ih =>
    intro hl m v h
    have hy : y.length = sz := hl y List.mem_cons_self
    rw [List.flatten_cons] at h
    by_cases hm : m < sz
    · rw [List.getElem?_append_left (by omega)] at h
      rw [Nat.div_eq_of_lt hm, Nat.mod_eq_of_lt hm]
      exact ⟨y, rfl, h⟩
    · rw [List.getElem?_append_right (by omega), hy] at h
      obtain ⟨cs, h1, h2⟩ := ih (fun c hc => hl c (List.mem_cons_of_mem _ hc)) (m - sz) v h
      have e1 : m / sz = (m - sz) / sz + 1 := by
        rw [Nat.div_eq_sub_div hs (by omega)]
      have e2 : m % sz = (m - sz) % sz := by
        rw [Nat.mod_eq_sub_mod (by omega)]
      rw [e1, e2]
      exact ⟨cs, by simpa using h1, h2⟩

/-- Each cell of an element is one cell. -/
def Rp.One {α : Type} (d : Rp α) : Prop := ∀ w S x cs, d.K w S x cs → ∀ u ∈ cs, u.oneCell' = true

/-- A row that is read, as its elements' cells. -/
structure Cells {α : Type} (d : Rp α) (w : World) (S : Nat → Prop) (xs : List α) (css : List (List Value)) : Prop where
  len : css.length = xs.length
  sz : ∀ cs ∈ css, cs.length = d.sz
  K : ∀ (i : Nat) (x : α) (cs : List Value), xs[i]? = some x → css[i]? = some cs → d.K w S x cs

theorem Cells.get {α : Type} {d : Rp α} {w : World} {S : Nat → Prop} {xs : List α} {css : List (List Value)} (h : Cells d w S xs css) {i : Nat} {x : α} (hx : xs[i]? = some x) : ∃ cs, css[i]? = some cs ∧ d.K w S x cs ∧ cs.length = d.sz := by
  have hi : i < css.length := by rw [h.len]; exact (List.getElem?_eq_some_iff.1 hx).1
  have hc : css[i]? = some css[i] := List.getElem?_eq_getElem hi
  exact ⟨_, hc, h.K i x _ hx hc, h.sz _ (List.getElem_mem hi)⟩

theorem Cells.one {α : Type} {d : Rp α} {w : World} {S : Nat → Prop} {xs : List α} {css : List (List Value)} (h : Cells d w S xs css) (h1 : d.One) : ∀ u ∈ css.flatten, u.oneCell' = true := by
  intro u hu
  obtain ⟨cs, hcs, hu⟩ := List.mem_flatten.1 hu
  obtain ⟨i, hi, rfl⟩ := List.mem_iff_getElem.1 hcs
  have hx : i < xs.length := by have := h.len; omega
  exact h1 w S _ _ (h.K i xs[i] css[i] (List.getElem?_eq_getElem hx) (List.getElem?_eq_getElem hi)) u hu

theorem Rd.cells {α : Type} {d : Rp α} {w : World} {S : Nat → Prop} {A : Option Addr} {n c : Nat} {xs : List α} (hs : 0 < d.sz) (h : Rd d w S A n c xs) :
    ∃ css, Cells d w S xs css ∧ ∀ ad, A = some ad → ∀ j u, css.flatten[j]? = some u → w.cell? (ad.add j) = some u := by
  have hn := h.length
  by_cases h0 : n = 0
  · subst h0
    have : xs = [] := List.eq_nil_of_length_eq_zero hn
    subst this
    exact ⟨[], ⟨rfl, fun cs hc => absurd hc List.not_mem_nil, fun i x cs hx => by simp at hx⟩, fun ad _ j u hu => by simp at hu⟩
  obtain ⟨h1, h2, h3, h4⟩ := h
  obtain ⟨b, off, cells, t, fr, rfl, hS, hb, hx⟩ := h4 (by omega)
  have hch : ∀ i : Nat, ∃ cs : List Value, i < n → ∀ x, xs[i]? = some x → d.K w S x cs ∧ ∀ j v, cs[j]? = some v → cells[off + i * d.sz + j]? = some v := by
    intro i
    by_cases hi : i < n
    · have hix : i < xs.length := by omega
      have hxi : xs[i]? = some xs[i] := List.getElem?_eq_getElem hix
      obtain ⟨cs, hK, hc⟩ := hx i _ hxi
      refine ⟨cs, fun _ x hx' => ?_⟩
      rw [hxi] at hx'
      injection hx' with hx'
      subst hx'
      exact ⟨hK, hc⟩
    · exact ⟨[], fun h => absurd h hi⟩
  let f := fun i => Classical.choose (hch i)
  have hf : ∀ i, i < n → ∀ x, xs[i]? = some x → d.K w S x (f i) ∧ ∀ j v, (f i)[j]? = some v → cells[off + i * d.sz + j]? = some v := fun i => Classical.choose_spec (hch i)
  have hC : Cells d w S xs ((List.range n).map f) := by
    refine ⟨by simp [h1], fun cs hc => ?_, fun i x cs hxi hci => ?_⟩
    · obtain ⟨i, hi, rfl⟩ := List.mem_map.1 hc
      have hi' : i < n := by simpa using hi
      have hix : i < xs.length := by omega
      exact d.len (hf i hi' xs[i] (List.getElem?_eq_getElem hix)).1
    · have hi : i < n := by rw [← h1]; exact (List.getElem?_eq_some_iff.1 hxi).1
      rw [List.getElem?_map, List.getElem?_range hi] at hci
      simp at hci
      subst hci
      exact (hf i hi x hxi).1
  refine ⟨_, hC, fun ad hA j u hu => ?_⟩
  injection hA with hA
  subst hA
  obtain ⟨cs, hc1, hc2⟩ := flatten_at d.sz hs _ hC.sz j u hu
  have hi : j / d.sz < n := by
    have := (List.getElem?_eq_some_iff.1 hc1).1
    simpa using this
  rw [List.getElem?_map, List.getElem?_range hi] at hc1
  simp at hc1
  subst hc1
  have hix : j / d.sz < xs.length := by omega
  have := (hf (j / d.sz) hi xs[j / d.sz] (List.getElem?_eq_getElem hix)).2 _ _ hc2
  have e : off + j / d.sz * d.sz + j % d.sz = off + j := by
    have := Nat.div_add_mod j d.sz
    rw [Nat.mul_comm] at this
    omega
  rw [e] at this
  rw [Addr.add_lit]
  simp [World.cell?, hb, this]

/-- What is owned reads. -/
theorem own_cells_rd {α : Type} {d : Rp α} {w : World} {S : Nat → Prop} {base : Nat} {e : TypeId} {v : Value} {xs : List α} {css : List (List Value)} (hC : Cells d w S xs css) (h : w.ownsRow base e d.sz v xs.length css.flatten) (hS : ∀ k, v.ownBlock = some k → S k) :
    ∃ A c, v = .slice A xs.length c ∧ Rd d w S A xs.length c xs := by
  rcases h.2 with ⟨rfl, h0⟩ | ⟨g, cap, cur, rfl, hb, hg, hn, hm, hs, ht⟩
  · have : xs = [] := List.eq_nil_of_length_eq_zero h0
    subst this
    exact ⟨none, 0, rfl, Rd.nil _ _ _⟩
  · refine ⟨_, cap, rfl, rfl, hn, hm, fun _ => ⟨g, 0, cur, e, (0, 0), rfl, hS g rfl, hg, fun i x hi => ?_⟩⟩
    obtain ⟨cs, hcs, hK, hl⟩ := hC.get hi
    refine ⟨cs, hK, fun j u hu => ?_⟩
    have := flatten_get d.sz css hC.sz i cs hcs j u hu
    rw [← ht, List.getElem?_take] at this
    split at this
    · show cur[0 + i * d.sz + j]? = _
      rw [Nat.zero_add]
      simpa using this
    · cases this

theorem own_form {w : World} {base : Nat} {e : TypeId} {sz n : Nat} {v : Value} {ys : List Value} (h : w.ownsRow base e sz v n ys) : ∃ A c, v = .slice A n c := by
  rcases h.2 with ⟨rfl, rfl⟩ | ⟨g, cap, cur, rfl, _⟩
  · exact ⟨none, 0, rfl⟩
  · exact ⟨_, cap, rfl⟩
/-- What a shallow copy of a row leaves. -/
def ClonePost {α : Type} (d : Rp α) (T : TypeId) (w : World) (S : Nat → Prop) (xs : List α) (e : Ending) (w' : World) : Prop :=
  ∃ A c css, e = .returned (.slice A xs.length c) ∧ w'.ownsRow w.heap.size T d.sz (.slice A xs.length c) xs.length css.flatten ∧ Cells d w S xs css ∧ Below w.heap.size w w'
theorem ClonePost.mk {α : Type} {d : Rp α} {T : TypeId} {w : World} {S : Nat → Prop} {xs : List α} {w' : World} {v : Value} {css : List (List Value)} (h : w'.ownsRow w.heap.size T d.sz v xs.length css.flatten) (hC : Cells d w S xs css) (hb : Below w.heap.size w w') : ClonePost d T w S xs (.returned v) w' := by
  obtain ⟨A, c, rfl⟩ := own_form h
  exact ⟨A, c, css, rfl, h, hC, hb⟩
end Go.Proofs.YtiiegpklpmogmaaGreatDoor
