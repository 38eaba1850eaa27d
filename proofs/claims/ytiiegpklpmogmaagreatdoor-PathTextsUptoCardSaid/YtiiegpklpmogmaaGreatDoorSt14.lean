/- A slice of times of the call's own, sorted where it lies. -/
import Derived.Test.YtiiegpklpmogmaaGreatDoorSt13
import Derived.Lib.OwnBridge
set_option linter.unusedVariables false
set_option linter.unusedSimpArgs false
namespace Go.Proofs.YtiiegpklpmogmaaGreatDoor
open Go.RowKit Go.Sort Go.Shelf

theorem flatK_list (xs : List Tm) : (flatK tmCells 3 xs.toArray).toList = xs.flatMap tmCells := by
  apply List.ext_getElem?
  intro t
  by_cases ht : t < xs.length * 3
  · have h1 : t / 3 < xs.length := by omega
    have h2 : t % 3 < 3 := by omega
    have hx : xs[t / 3]? = some xs[t / 3] := List.getElem?_eq_getElem h1
    have hv : (tmCells xs[t / 3])[t % 3]? = some (tmCells xs[t / 3])[t % 3] := List.getElem?_eq_getElem (by simpa [tmCells] using h2)
    have h3 := flat_get tmCells 3 (fun _ => rfl) xs (t / 3) _ hx (t % 3) _ hv
    rw [show t / 3 * 3 + t % 3 = t by omega] at h3
    rw [h3]
    simp only [flatK, Array.toList_map, Array.toList_range, List.getElem?_map, List.size_toArray]
    rw [List.getElem?_range ht]
    simp [getElem!_pos, h1, hv]
  · rw [List.getElem?_eq_none (by simp; omega), List.getElem?_eq_none (by rw [flat_length tmCells 3 (fun _ => rfl)]; omega)]

theorem own_holds {w : World} {base g n cap : Nat} {e : TypeId} {xs : List Tm} (h : w.ownsRow base e 3 (.slice (some ⟨g, 0, none⟩) n cap) n (xs.flatMap tmCells)) :
    HoldsK tmCells 3 w g 0 xs.toArray ∧ base ≤ g ∧ g < w.heap.size ∧ xs.length = n := by
  have hl : xs.length = n := by have := h.1; rw [flat_length tmCells 3 (fun _ => rfl)] at this; omega
  rcases h.2 with ⟨e0, _⟩ | ⟨g', cap', cur, e0, hb, hg, hn, hm, hs, ht⟩
  · cases e0
  · injection e0 with e1 _ e3
    injection e1 with e1
    injection e1 with e1
    subst e1; subst e3
    refine ⟨fun j hj => ?_, hb, (Array.getElem?_eq_some_iff.1 hg).1, hl⟩
    have hj' : j < n * 3 := by simpa [hl] using hj
    refine ⟨?_, by simp [World.frozen?, hg]⟩
    have e2 : (cur.toList.take (n * 3))[j]? = (flatK tmCells 3 xs.toArray).toList[j]? := by rw [ht, flatK_list]
    rw [List.getElem?_take, if_pos hj', Array.getElem?_toList, Array.getElem?_toList, Array.getElem?_eq_getElem hj] at e2
    simp only [World.cell?, hg, Nat.zero_add]
    simp only [Option.isSome_none, Bool.false_eq_true, if_false]
    rw [e2]
    exact congrArg some (getElem!_pos _ j hj).symm

theorem own_sorted {w : World} {base g n cap q : Nat} {e : TypeId} {xs ys : List Tm} {os : Array Obj} (h : w.ownsRow base e 3 (.slice (some ⟨g, 0, none⟩) n cap) n (xs.flatMap tmCells)) (hy : ys.length = n) :
    (sortWorldK tmCells 3 w g 0 q ys.toArray os).ownsRow base e 3 (.slice (some ⟨g, 0, none⟩) n cap) n (ys.flatMap tmCells) := by
  rcases h.2 with ⟨e0, _⟩ | ⟨g', cap', cur, e0, hb, hg, hn, hm, hs, ht⟩
  · cases e0
  · injection e0 with e1 _ e3
    injection e1 with e1
    injection e1 with e1
    subst e1; subst e3
    have hgl : g < w.heap.size := (Array.getElem?_eq_some_iff.1 hg).1
    refine ⟨by rw [flat_length tmCells 3 (fun _ => rfl), hy], .inr ⟨g, cap, putCells id 0 (flatK tmCells 3 ys.toArray) cur, rfl, hb, ?_, hn, hm, by simpa [putCells] using hs, ?_⟩⟩
    · have hgm : (w.heap.modify g (onCells (putCells id 0 (flatK tmCells 3 ys.toArray))))[g]? = some (.cells (putCells id 0 (flatK tmCells 3 ys.toArray) cur) e (0, 0)) := by
        rw [Array.getElem?_modify]; simp [hg, onCells]
      simp only [sortWorldK, putRowK, grow, putRow, mapBlock, Sort.ahead]
      rw [Array.getElem?_append_left (by simpa using hgl)]
      exact hgm
    · rw [← flatK_list]
      apply List.ext_getElem?
      intro j
      rw [List.getElem?_take, Array.getElem?_toList, Array.getElem?_toList]
      by_cases hj : j < n * 3
      · have hjc : j < cur.size := by omega
        have hjf : j < (flatK tmCells 3 ys.toArray).size := by simp [hy]; omega
        simp only [if_pos hj, putCells, Array.getElem?_mapIdx, Array.getElem?_eq_getElem hjc, Option.map_some]
        rw [if_pos (by omega), Array.getElem?_eq_getElem hjf]
        exact congrArg some (getElem!_pos _ j hjf)
      · rw [if_neg hj, Array.getElem?_eq_none (by simp [hy]; omega)]

theorem below_sorted {w w0 : World} {B g q : Nat} {d : Array Tm} {os : Array Obj} (h : Below B w0 w) (hg : B ≤ g) (hB : B ≤ w.heap.size) : Below B w0 (sortWorldK tmCells 3 w g 0 q d os) := by
  have h1 : Below B w0 (putRow id (Sort.ahead w q) g 0 (flatK tmCells 3 d)) := Lib.below_putRow h hg
  refine ⟨h1.os, h1.tape, h1.output, ?_, fun k hk => ?_⟩
  · have := h1.size
    simp [sortWorldK, putRowK, grow] at this ⊢
    omega
  · rw [← h1.block k hk]
    have hs : k < (putRow id (Sort.ahead w q) g 0 (flatK tmCells 3 d)).heap.size := by
      have : (putRow id (Sort.ahead w q) g 0 (flatK tmCells 3 d)).heap.size = w.heap.size := by simp [putRow, mapBlock, Sort.ahead]
      omega
    simp only [sortWorldK, putRowK, grow, Array.getElem?_append, hs, if_true]

end Go.Proofs.YtiiegpklpmogmaaGreatDoor
