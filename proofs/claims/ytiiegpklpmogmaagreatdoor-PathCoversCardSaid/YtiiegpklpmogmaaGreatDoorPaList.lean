/- Lists of paths as data. -/
import Derived.Test.YtiiegpklpmogmaaGreatDoorStList
import Derived.Test.YtiiegpklpmogmaaGreatDoorPaRow
import Derived.SizedLaws
set_option linter.unusedVariables false
set_option linter.unusedSimpArgs false
namespace Go.Proofs.YtiiegpklpmogmaaGreatDoor
open Go.ChangeShapes Go.WideShapes Go.ChangeAt Go.RowKit Go.Deep

theorem pt_bytes : Tryz.prog.bytesOf 40 = 24 := by kernel_rfl
theorem tm_bytes : Tryz.prog.bytesOf 25 = 24 := by kernel_rfl

section
variable {H : Type} {enc : TypeId × Value → H} {W : World} {sp : Nat → Bool} {held : Bool}

set_option maxRecDepth 100000 in
theorem open_pts {r : Reach} {b0 : Nat} {v : Value} {d : DataW H} {ps : List MemPlace} (hv : Value.okWide Tryz.prog W r b0 53 v) (h : DataW.Trod enc Tryz.prog W 0 sp held 53 v d ps) :
    ∃ (A : Option Addr) (n c : Nat) (xs : List Tm), v = .slice A n c ∧ (A = none → c = 0) ∧ Rd tmR W (fun _ => True) A n c xs ∧ (∀ x ∈ xs, x.ok) ∧ n * 4 ≤ Rows.uptoBulk d :=
  open_row Tryz.underlying53 pt_cellsOf (fun _ _ _ h => trod_pt h) hv h

set_option maxRecDepth 100000 in
theorem slice_len {T e : TypeId} (ht : Tryz.prog.underlying T = some (.slice e)) {A : Option Addr} {n c : Nat} {d : DataW H} {ps : List MemPlace} (h : DataW.Trod enc Tryz.prog W 0 sp held T (.slice A n c) d ps) :
    n = 0 ∨ ∃ el spr, d = .slice el spr ∧ el.length = n := by
  obtain ⟨fuel, h⟩ := h
  rcases open_slice ht h with ⟨hcs, hx⟩ | ⟨a, len, cap, m, k, D, Pl, hcs, hb, hl, hm, hmm, hx, hi⟩
  · have hcs' : [Value.slice A n c] = [.slice none 0 0] := hcs
    injection hcs' with h1 _
    injection h1 with h1 h2 h3
    exact .inl h2
  · have hcs' : [Value.slice A n c] = [.slice (some a) len cap] := hcs
    injection hcs' with h1 _
    injection h1 with h1 h2 h3
    injection hx with hd hp
    exact .inr ⟨_, _, hd, by simp [h2]⟩
end
end Go.Proofs.YtiiegpklpmogmaaGreatDoor
