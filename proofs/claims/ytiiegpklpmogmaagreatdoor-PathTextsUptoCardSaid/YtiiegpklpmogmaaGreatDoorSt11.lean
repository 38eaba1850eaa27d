/- slices.Clone at times, walked. -/
import Derived.Test.YtiiegpklpmogmaaGreatDoorSt10
import Derived.Test.YtiiegpklpmogmaaGreatDoorBase2
set_option linter.unusedVariables false
set_option linter.unusedSimpArgs false
namespace Go.Proofs.YtiiegpklpmogmaaGreatDoor
open Go.RowKit Go.Sort

theorem tm_one : tmR.One := fun w S x cs e u hu => by
  obtain rfl : cs = tmCells x := e
  simp only [tmCells, List.mem_cons, List.not_mem_nil, or_false] at hu
  rcases hu with rfl | rfl | rfl <;> rfl

theorem Tryz.info_tm : (Tryz.prog.info? 25).map (fun i => (i.zero, i.size, i.bytes)) = some (some (.agg #[.int .u64 0, .int .u64 0, .int .u64 0]), 3, 24) := by kernel_rfl
set_option maxHeartbeats 1000000 in
theorem clone_tm (A : Option Addr) (n c : Nat) (xs : List Tm) (S : Nat → Prop) (w : World) (h : Rd tmR w S A n c xs) (hbig : n * 24 ≤ 140737488355328) :
    Calls Tryz.prog 57 #[.slice A n c] w (ClonePost tmR 25 w S xs) := by
  have hl := h.length
  have q := fun (w : World) (a : Option Addr) (n c n' c' : Nat) => Lib.run_eql_slice_nil (P := Tryz.prog) w 22 25 a n c n' c' Tryz.underlying22
  cases A with
  | none =>
    have hn : n = 0 := by
      rcases Nat.eq_zero_or_pos n with h0 | h0
      · exact h0
      · obtain ⟨_, _, _, h4⟩ := h
        obtain ⟨b, off, _, _, _, e, _⟩ := h4 h0
        cases e
    subst hn
    have : xs = [] := List.eq_nil_of_length_eq_zero hl
    subst this
    clear h
    go_enter Tryz.func57, Tryz.ntmps57
    go_wp2
    go_ret
    exact ClonePost.mk (css := []) (World.ownsRow_nil _ _ _ _) ⟨rfl, fun cs hc => absurd hc List.not_mem_nil, fun i x cs hx => by simp at hx⟩ (Below.refl _ _)
  | some ad =>
    obtain ⟨css, hC, hc⟩ := h.cells (by decide)
    have hsm := h.small
    have hle := h.le
    have HC := Lib.hid hC
    have A0 := Lib.hid (hc ad rfl)
    have L0 := Lib.hid hl
    clear h hc hC hl
    obtain ⟨i0, hi, hz0, hz1, hz2⟩ := info_parts Tryz.info_tm
    go_enter Tryz.func57, Tryz.ntmps57
    go_wp2_with (at_builtin; refine wpList_append_own _ rfl _ _ 22 rfl w.heap.size 25 i0 (.agg #[.int .u64 0, .int .u64 0, .int .u64 0]) 3 24 Tryz.underlying22 hi hz0 hz1 hz2 rfl (by decide) _ _ _ rfl (World.ownsRow_made w #[] 0 (Nat.le_refl _) (Nat.zero_le _) (by simp)) ad n c css.flatten rfl ?qc1 ?qc2 ?qc3 ?qc4 ?qc5 ?qc6 ?_)
    case qc1 => rw [flatten_length 3 css HC.out.sz, HC.out.len, L0.out]
    case qc2 =>
      intro j u hj
      exact Lib.cell?_alloc_some _ (A0.out j u hj)
    case qc3 => exact HC.out.one tm_one
    case qc4 => unfold maxLen; omega
    case qc5 => omega
    case qc6 => simp
    intro v' w1 hown hgrow hnil
    go_wp2
    go_ret
    refine ClonePost.mk (css := css) ?_ HC.out ?_
    · rw [L0.out]; exact hown
    · exact ((Below.refl _ w).alloc (Nat.le_refl _) _).grown hgrow (by simp) (by intro k hk; simp [Value.ownBlock] at hk; omega)

end Go.Proofs.YtiiegpklpmogmaaGreatDoor
