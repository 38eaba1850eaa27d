/- Lists of times (or paths) as data: opened to a row that reads. -/
import Derived.Test.YtiiegpklpmogmaaGreatDoorStRow
import Derived.Test.YtiiegpklpmogmaaGreatDoorBase2
import Derived.Test.YtiiegpklpmogmaaGreatDoorSt10
import Derived.Test.YtiiegpklpmogmaaGreatDoorCards
import Derived.Carry
import Derived.Deep.Slices
set_option linter.unusedVariables false
set_option linter.unusedSimpArgs false
namespace Go.Proofs.YtiiegpklpmogmaaGreatDoor
open Go.ChangeShapes Go.WideShapes Go.ChangeAt Go.RowKit Go.Deep

theorem row_laid : laidOutB Tryz.prog = true := by kernel_rfl

theorem bulk_all {H : Type} (l : List (DataW H)) (k : Nat) (h : ∀ d ∈ l, k ≤ Rows.uptoBulk d) : l.length * k ≤ Rows.uptoBulkAll l := by
  induction l with
  | nil => simp [Rows.uptoBulkAll]
  | cons d r ih =>
    have h1 := h d (by simp)
    have h2 := ih (fun x hx => h x (List.mem_cons_of_mem _ hx))
    simp only [Rows.uptoBulkAll, List.length_cons, Nat.succ_mul]
    omega
theorem bulk_tm {H : Type} (t : Tm) : Rows.uptoBulk (tmD t : DataW H) = 4 := by
  simp [tmD, Rows.uptoBulk, Rows.uptoBulkAll]

section
variable {H : Type} {enc : TypeId × Value → H} {W : World} {sp : Nat → Bool} {held : Bool}

set_option maxRecDepth 100000 in
theorem open_row {T e : TypeId} (ht : Tryz.prog.underlying T = some (.slice e)) (hc : Tryz.prog.cellsOf e = 3)
    (htr : ∀ (fuel : Nat) (cs : List Value) (x : DataW H × List MemPlace), DataW.trod enc Tryz.prog W 0 sp held fuel e cs = some x → ∃ t : Tm, cs = tmCells t ∧ x = (tmD t, []) ∧ t.ok)
    {r : Reach} {b0 : Nat} {v : Value} {d : DataW H} {ps : List MemPlace} (hv : Value.okWide Tryz.prog W r b0 T v) (h : DataW.Trod enc Tryz.prog W 0 sp held T v d ps) :
    ∃ (A : Option Addr) (n c : Nat) (xs : List Tm), v = .slice A n c ∧ (A = none → c = 0) ∧ Rd tmR W (fun _ => True) A n c xs ∧ (∀ x ∈ xs, x.ok) ∧ n * 4 ≤ Rows.uptoBulk d := by
  obtain ⟨A, n, c, rfl⟩ := okWide_slice ht hv
  obtain ⟨fuel, h⟩ := h
  rcases open_slice ht h with ⟨hcs, hx⟩ | ⟨a, len, cap, m, k, D, Pl, hcs, hb, hl, hm, hmm, hx, hi⟩
  · have hcs' : [Value.slice A n c] = [.slice none 0 0] := hcs
    injection hcs' with h1 _
    injection h1 with h1 h2 h3
    subst h1; subst h2; subst h3
    exact ⟨none, 0, 0, [], rfl, fun _ => rfl, Rd.nil _ _ _, (fun x hx => by cases hx), by omega⟩
  · have hcs' : [Value.slice A n c] = [.slice (some a) len cap] := hcs
    injection hcs' with h1 _
    injection h1 with h1 h2 h3
    subst h1; subst h2; subst h3
    have hnm : n ≤ m := by rw [hmm]; split <;> omega
    obtain ⟨X, hX⟩ := choose_lt (α := Tm) (n := n) (p := fun i t => W.cells? 0 (a.add (i * 3)) 3 = some (tmCells t) ∧ D i = tmD t ∧ t.ok) (fun i hin => by
      obtain ⟨cs', h1, h2⟩ := hi i (by omega)
      rw [hc] at h1
      obtain ⟨t, e1, e2, ok⟩ := htr _ _ _ h2
      injection e2 with e2 _
      exact ⟨t, by rw [h1, e1], e2, ok⟩)
    refine ⟨some a, n, c, (List.range n).map X, rfl, (fun h => by cases h), ⟨by simp, hl, hm, fun hn => ?_⟩, fun x hx => ?_, ?_⟩
    · have h0 := (World.cells?_some (hX 0 hn).1).2.2 0 (by omega)
      have hcell : W.cell? a = some (.int .u64 (X 0).a) := by
        have : (a.add (0 * 3)).add 0 = a := by unfold Addr.add; simp
        rw [this] at h0
        rw [h0]; rfl
      obtain ⟨b, off, spot⟩ := a
      cases hw : W.heap[b]? with
      | none => simp [World.cell?, hw] at hcell
      | some o =>
        cases o with
        | cells cells t fr =>
          cases spot with
          | some s => simp [World.cell?, hw] at hcell
          | none =>
            refine ⟨b, off, cells, t, fr, rfl, trivial, hw, fun i x hxi => ?_⟩
            have hin : i < n := by have := (List.getElem?_eq_some_iff.1 hxi).1; simpa using this
            rw [List.getElem?_map, List.getElem?_range hin] at hxi
            simp at hxi
            subst hxi
            refine ⟨tmCells (X i), rfl, fun j u hj => ?_⟩
            have hj3 : j < 3 := by have := (List.getElem?_eq_some_iff.1 hj).1; simpa [tmCells] using this
            have h2 := (World.cells?_some (hX i hin).1).2.2 j hj3
            rw [hj] at h2
            rw [Go.Deep.add_add] at h2
            have h3 : (Addr.add ⟨b, off, none⟩ (i * 3 + j)) = ⟨b, off + (i * 3 + j), none⟩ := by
              unfold Addr.add
              split
              · rename_i hz; rw [hz]; rfl
              · rfl
            rw [h3] at h2
            simp only [World.cell?, hw] at h2
            show cells[off + i * 3 + j]? = some u
            rw [Nat.add_assoc]
            simpa using h2
        | _ => simp [World.cell?, hw] at hcell
    · obtain ⟨i, hin, rfl⟩ := List.mem_map.1 hx
      exact (hX i (by simpa using hin)).2.2
    · injection hx with hd hp
      rw [hd]
      have h4 := bulk_all ((List.range n).map D) 4 (fun y hy => by
        obtain ⟨i, hin, rfl⟩ := List.mem_map.1 hy
        rw [(hX i (by simpa using hin)).2.1, bulk_tm]
        exact Nat.le_refl _)
      simp only [List.length_map, List.length_range] at h4
      simp only [Rows.uptoBulk]
      omega

set_option maxRecDepth 100000 in
theorem open_tms {r : Reach} {b0 : Nat} {v : Value} {d : DataW H} {ps : List MemPlace} (hv : Value.okWide Tryz.prog W r b0 22 v) (h : DataW.Trod enc Tryz.prog W 0 sp held 22 v d ps) :
    ∃ (A : Option Addr) (n c : Nat) (xs : List Tm), v = .slice A n c ∧ (A = none → c = 0) ∧ Rd tmR W (fun _ => True) A n c xs ∧ (∀ x ∈ xs, x.ok) ∧ n * 4 ≤ Rows.uptoBulk d :=
  open_row Tryz.underlying22 tm_cellsOf (fun _ _ _ h => trod_tm h) hv h
end
end Go.Proofs.YtiiegpklpmogmaaGreatDoor
