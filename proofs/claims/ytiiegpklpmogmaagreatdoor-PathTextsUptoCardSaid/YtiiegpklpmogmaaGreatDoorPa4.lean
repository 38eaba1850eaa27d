/- path.Least, walked: the loop. -/
import Derived.Test.YtiiegpklpmogmaaGreatDoorPa3
set_option linter.unusedVariables false
set_option linter.unusedSimpArgs false
namespace Go.Proofs.YtiiegpklpmogmaaGreatDoor
open Go.RowKit Go.Sort Go.Shelf

/-- The least: of the call's own memory. -/
def LeastPost (w : World) (ys : List Tm) (e : Ending) (w' : World) : Prop :=
  ∃ A c, e = .returned (.slice A ys.length c) ∧ w'.ownsRow w.heap.size 40 3 (.slice A ys.length c) ys.length (ys.flatMap tmCells) ∧ Below w.heap.size w w'

def lsK (xs : List Tm) (k : Nat) : List Tm := (xs.take k).foldl (leastStep xs) []
theorem lsK_succ {xs : List Tm} {k : Nat} {t : Tm} (h : xs[k]? = some t) : lsK xs (k + 1) = leastStep xs (lsK xs k) t := by
  unfold lsK
  rw [List.take_add_one, h, List.foldl_append]; rfl
theorem lsK_all (xs : List Tm) : sortV (lsK xs xs.length) = leastV xs := by
  unfold lsK leastV rawLeast
  rw [List.take_of_length_le (Nat.le_refl _)]
theorem lsK_length (xs : List Tm) (k : Nat) : (lsK xs k).length ≤ k := by
  induction k with
  | zero => simp [lsK]
  | succ k ih =>
    cases h : xs[k]? with
    | some t =>
      rw [lsK_succ h]
      unfold leastStep
      split
      · omega
      · simp; omega
    | none =>
      have : lsK xs (k + 1) = lsK xs k := by unfold lsK; rw [List.take_add_one, h]; simp
      rw [this]; omega

theorem Tryz.info_pt : (Tryz.prog.info? 40).map (fun i => (i.zero, i.size, i.bytes)) = some (some (.agg #[.int .u64 0, .int .u64 0, .int .u64 0]), 3, 24) := by kernel_rfl

set_option maxHeartbeats 4000000 in
set_option maxRecDepth 8000 in
/-- path.Least. -/
theorem least_at (A : Option Addr) (n c : Nat) (xs : List Tm) (S : Nat → Prop) (w : World) (h : Rd tmR w S A n c xs) (hbig : n * 24 ≤ 140737488355328) :
    Calls Tryz.prog 45 #[.slice A n c] w (LeastPost w (leastV xs)) := by
  obtain rfl := h.length
  have hle := h.le
  have hsm := h.small
  have HR := Lib.hid h
  clear h
  obtain ⟨i0, hi, hz0, hz1, hz2⟩ := info_parts Tryz.info_pt
  have CS := Lib.hid (fun W v (k : Nat) ys hW (hB : w.heap.size ≤ W.heap.size) hk => psort_own (W := W) (base := w.heap.size) (n := k) (v := v) (xs := ys) hW hB hk)
  go_enter Tryz.func45, Tryz.ntmps45
  go_wp2
  go_loopw [3, 9] (fun v3 v9 wr => ∃ (k : Nat) (ao : Option Addr) (cv : Nat), k ≤ xs.length ∧ v9 = .int .i64 k ∧ v3 = .slice ao (lsK xs k).length cv ∧ wr.ownsRow w.heap.size 40 3 v3 (lsK xs k).length ((lsK xs k).flatMap tmCells) ∧ Below w.heap.size w wr) (fun _ v9 _ => xs.length - (intOf v9).toNat)
  case atStart => exact ⟨0, none, 0, Nat.zero_le _, rfl, rfl, World.ownsRow_nil _ _ _ _, by (repeat first | exact Below.refl _ _ | assumption | refine Bel.alloc' ?_ _ | refine Bel.drewN ?_ _ | refine Below.drew ?_ | refine Bel.step' ?_ (by assumption))⟩
  case round =>
    obtain ⟨k, ao, cv, hk, rfl, rfl, hown, hbel⟩ := hrel
    have k0 : 0 ≤ (k : Int) := by omega
    by_cases hlt : k < xs.length
    · obtain ⟨b, off, t, cs, rfl, ht, hK, hb, hS, hc⟩ := HR.out.at_ k hlt
      obtain rfl : cs = tmCells t := hK
      have hsucc := lsK_succ ht
      have hlk := lsK_length xs k
      have d0 : wr.cell? ⟨b, off + k * 3, none⟩ = _ := (hbel.cell (p := ⟨b, off + k * 3, none⟩) hb).trans (hc 0 _ rfl)
      have d1 : wr.cell? ⟨b, off + k * 3 + 1, none⟩ = _ := (hbel.cell (p := ⟨b, _, none⟩) hb).trans (hc 1 _ rfl)
      have d2 : wr.cell? ⟨b, off + k * 3 + 2, none⟩ = _ := (hbel.cell (p := ⟨b, _, none⟩) hb).trans (hc 2 _ rfl)
      have k1 : (k : Int) < xs.length := by omega
      have hwr := hbel.size
      have hbr : b < wr.heap.size := by omega
      obtain ⟨A3, c3, e3, hrd3⟩ := own_rd (enc := tmCells) (hl := fun _ => rfl) (xs := lsK xs k) hown
      injection e3 with e3 _ e4
      subst e3; subst e4
      have hop := fun W (hW : Below wr.heap.size wr W) bt hbt => pcfn_at _ _ _ xs t bt S W (HR.out.below (hbel.trans (hW.mono hwr))) hbt
      have hct := fun W (hW : Below wr.heap.size wr W) => pcont_at _ _ _ (lsK xs k) t _ W (hrd3.below hW)
      clear ht hc hrd3
      generalize lsK xs k = acc at hown hct hsucc hlk ⊢
      obtain ⟨ta, tb, tc⟩ := t
      simp only [tmV, tmCells] at hop hct
      unfold leastStep at hsucc
      cases hb1 : beatV xs ⟨ta, tb, tc⟩ with
      | true =>
        rw [hb1] at hop hsucc
        rw [Bool.true_or, if_pos rfl] at hsucc
        have HS := Lib.hid hsucc
        have CO := Lib.hid hop
        clear hop hsucc hct hb1
        go_wp2_with (go_at_call 75; refine (CO.out _ (by (repeat first | exact Below.refl _ _ | assumption | refine Bel.alloc' ?_ _ | refine Bel.drewN ?_ _ | refine Below.drew ?_ | refine Bel.step' ?_ (by assumption))) _ (Blk.new _ _ _)).mono ?_; rintro e w4 ⟨rfl, hb4⟩; have hB4 := (Blk.new _ _ _).later hb4; have f0 := hB4.cell 0 _ rfl; have f1 := hB4.cell 1 _ rfl; have f2 := hB4.cell 2 _ rfl; clear hB4; have hb4' : Below wr.heap.size wr w4 := Bel.step' (by (repeat first | exact Below.refl _ _ | assumption | refine Bel.alloc' ?_ _ | refine Bel.drewN ?_ _ | refine Below.drew ?_ | refine Bel.step' ?_ (by assumption))) hb4)
        refine ⟨⟨k + 1, _, _, by omega, rfl, by rw [HS.out], by rw [HS.out]; exact own_below hown hb4', hbel.trans (hb4'.mono hwr)⟩, by simp [intOf]; omega⟩
      | false =>
        rw [hb1] at hop hsucc
        cases hb2 : hasB acc ⟨ta, tb, tc⟩ with
        | true =>
          rw [hb2] at hct hsucc
          rw [Bool.or_true, if_pos rfl] at hsucc
          have HS := Lib.hid hsucc
          have CO := Lib.hid hop
          have CK := Lib.hid hct
          clear hop hsucc hct hb1 hb2
          go_wp2_with (first | (go_at_call 75; refine (CO.out _ (by (repeat first | exact Below.refl _ _ | assumption | refine Bel.alloc' ?_ _ | refine Bel.drewN ?_ _ | refine Below.drew ?_ | refine Bel.step' ?_ (by assumption))) _ (Blk.new _ _ _)).mono ?_; rintro e w4 ⟨rfl, hb4⟩; have hB4 := (Blk.new _ _ _).later hb4; have f0 := hB4.cell 0 _ rfl; have f1 := hB4.cell 1 _ rfl; have f2 := hB4.cell 2 _ rfl; clear hB4; have hb4' : Below wr.heap.size wr w4 := Bel.step' (by (repeat first | exact Below.refl _ _ | assumption | refine Bel.alloc' ?_ _ | refine Bel.drewN ?_ _ | refine Below.drew ?_ | refine Bel.step' ?_ (by assumption))) hb4) | (go_at_call 77; refine (CK.out _ hb4').mono ?_; rintro e w5 ⟨rfl, hb5⟩; have hb5' : Below wr.heap.size wr w5 := Bel.step' hb4' hb5))
          refine ⟨⟨k + 1, _, _, by omega, rfl, by rw [HS.out], by rw [HS.out]; exact own_below hown hb5', hbel.trans (hb5'.mono hwr)⟩, by simp [intOf]; omega⟩
        | false =>
          rw [hb2] at hct hsucc
          rw [Bool.or_false, if_neg Bool.false_ne_true] at hsucc
          have HS := Lib.hid hsucc
          have CO := Lib.hid hop
          have CK := Lib.hid hct
          clear hop hsucc hct hb1 hb2
          go_wp2_with (first | (go_at_call 75; refine (CO.out _ (by (repeat first | exact Below.refl _ _ | assumption | refine Bel.alloc' ?_ _ | refine Bel.drewN ?_ _ | refine Below.drew ?_ | refine Bel.step' ?_ (by assumption))) _ (Blk.new _ _ _)).mono ?_; rintro e w4 ⟨rfl, hb4⟩; have hB4 := (Blk.new _ _ _).later hb4; have f0 := hB4.cell 0 _ rfl; have f1 := hB4.cell 1 _ rfl; have f2 := hB4.cell 2 _ rfl; clear hB4; have hb4' : Below wr.heap.size wr w4 := Bel.step' (by (repeat first | exact Below.refl _ _ | assumption | refine Bel.alloc' ?_ _ | refine Bel.drewN ?_ _ | refine Below.drew ?_ | refine Bel.step' ?_ (by assumption))) hb4) | ((go_at_call 77; refine (CK.out _ hb4').mono ?_; rintro e w5 ⟨rfl, hb5⟩; have hb5' : Below wr.heap.size wr w5 := Bel.step' hb4' hb5); have hB5 := ((Blk.new _ _ _).later hb4).later hb5; have f0' := hB5.cell 0 _ rfl; have f1' := hB5.cell 1 _ rfl; have f2' := hB5.cell 2 _ rfl; clear hB5) | (at_builtin; refine wpList_append_own _ rfl _ _ 53 rfl w.heap.size 40 i0 (.agg #[.int .u64 0, .int .u64 0, .int .u64 0]) 3 24 Tryz.underlying53 hi hz0 hz1 hz2 rfl (by decide) _ _ _ rfl ((own_below hown hb5').alloc _) ⟨w5.heap.size, 0, none⟩ 1 1 (tmCells ⟨ta, tb, tc⟩) rfl rfl ?qa1 ?qa2 ?qa3 ?qa4 ?qa5 ?_))
          case qa1 => intro j u hj; rw [Addr.add_lit]; exact (Blk.new _ _ _).cell _ _ (by simpa [tmCells] using hj)
          case qa2 => exact tm_one w S ⟨ta, tb, tc⟩ _ rfl
          case qa3 => unfold maxLen; omega
          case qa4 => omega
          case qa5 => have := hb5'.size; simp; omega
          intro v' w6 hown' hgrow6 hnil6
          go_wp2
          have hb6 : Below w.heap.size wr w6 := ((hb5'.mono hwr).alloc (Nat.le_trans hwr hb5'.size) _).grown hgrow6 (by have := hb5'.size; simp; omega) (fun q hq => ?_)
          obtain ⟨ao', cv', rfl⟩ := own_form hown'
          refine ⟨⟨k + 1, ao', cv', by omega, rfl, ?_, ?_, hbel.trans hb6⟩, by simp [intOf]; omega⟩
          · rw [HS.out]; simp
          · rw [HS.out]; simpa [List.flatMap_append] using hown'
          · have := (hown.lt q hq).1; omega
    · obtain rfl : k = xs.length := by omega
      have k1 : ¬ (xs.length : Int) < xs.length := by omega
      have hll := lsK_length xs xs.length
      have hall := Lib.hid (lsK_all xs)
      have hsl := Lib.hid (sortV_length (lsK xs xs.length))
      generalize lsK xs xs.length = acc at *
      go_wp2_with (go_at_call 78; refine (CS.out _ _ _ _ hown hbel.size (by omega)).mono ?_; rintro e w4 ⟨rfl, hown4, hb4⟩)
      go_ret
      have e1 : (leastV xs).length = acc.length := by rw [← hall.out, hsl.out]
      refine ⟨ao, cv, ?_, ?_, hbel.trans hb4⟩
      · rw [e1]; rfl
      · rw [e1, ← hall.out]; exact hown4
end Go.Proofs.YtiiegpklpmogmaaGreatDoor
