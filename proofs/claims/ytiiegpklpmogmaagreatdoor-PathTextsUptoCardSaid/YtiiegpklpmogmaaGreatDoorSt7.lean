/- stamp.Text, walked. -/
import Derived.Test.YtiiegpklpmogmaaGreatDoorSt6
import Derived.Maps.AppendAt
set_option linter.unusedVariables false
set_option linter.unusedSimpArgs false
namespace Go.Proofs.YtiiegpklpmogmaaGreatDoor
open Go.RowKit

theorem Tryz.info_str : (Tryz.prog.info? 9).map (fun i => (i.zero, i.size, i.bytes)) = some (some (.string ByteArray.empty), 1, 16) := by kernel_rfl

theorem fmt_int (x : Int) (h0 : 0 ≤ x) (h1 : x < 18446744073709551616) (w : World) (hg : Glob w) :
    Calls Tryz.prog 84 #[.int .u64 x, .int .i64 10] w fun e w' => e = .returned (.string ⟨(decI x).toArray⟩) ∧ Below w.heap.size w w' := by
  have := fmt_at x.toNat (by omega) w hg
  rw [show ((x.toNat : Nat) : Int) = x by omega] at this
  exact this

set_option maxHeartbeats 1000000 in
theorem text_bad (t : Tm) (n : Int) (w : World) (h : fitsV t.a t.b t.c n ≠ 0) :
    Calls Tryz.prog 53 #[tmV t, .int .i64 n] w fun e w' => e = .returned (.tuple #[.string ⟨#[]⟩, .int .i64 (fitsV t.a t.b t.c n)]) ∧ Below w.heap.size w w' := by
  have CF := Lib.hid (fun W => fits_any t.a t.b t.c n W)
  have h1 : (fitsV t.a t.b t.c n != 0) = true := by simpa using h
  generalize fitsV t.a t.b t.c n = v at CF h1 ⊢
  clear h
  obtain ⟨a, b, c⟩ := t
  simp only [tmV] at CF ⊢
  go_enter Tryz.func53, Tryz.ntmps53
  go_wp2_with (go_at_call 29; refine (CF.out _).mono ?_; rintro e w1 ⟨rfl, hb1⟩)
  go_ret2
  exact ⟨rfl, by (repeat first | exact Below.refl _ _ | assumption | refine Bel.alloc' ?_ _ | refine Bel.drewN ?_ _ | refine Below.drew ?_ | refine Bel.step' ?_ (by assumption))⟩

theorem own_below {B : Nat} {e : TypeId} {k : Nat} {v : Value} {n : Nat} {xs : List Value} {w w' : World} (h : w.ownsRow B e k v n xs) (hb : Below w.heap.size w w') : w'.ownsRow B e k v n xs := by
  refine ⟨h.1, ?_⟩
  rcases h.2 with h2 | ⟨g, cap, cur, h1, h2, h3, h4⟩
  · exact .inl h2
  · exact .inr ⟨g, cap, cur, h1, h2, (hb.block g (Array.getElem?_eq_some_iff.1 h3).1).trans h3, h4⟩

def strs (t : Tm) (k : Nat) : List ByteArray := ((nums t).take k).map fun x => ⟨(decI x).toArray⟩
theorem strs_length (t : Tm) (k : Nat) (h : k ≤ 3) : (strs t k).length = k := by simp [strs, nums]; omega
theorem strs_join (t : Tm) (n : Nat) : Lib.join ((strs t n).map (·.data.toList)) [46] = textV t n := by simp [strs, textV, Function.comp_def]
theorem join_bound (xs : List (List UInt8)) (h : ∀ x ∈ xs, x.length ≤ 20) : (Lib.join xs [46]).length ≤ 21 * xs.length := by
  unfold Lib.join
  induction xs with
  | nil => simp [List.intercalate]
  | cons x xs ih =>
    cases xs with
    | nil => have := h x (by simp); simp [List.intercalate]; omega
    | cons y ys =>
      have h1 := h x (by simp)
      have h2 := ih (fun z hz => h z (List.mem_cons_of_mem _ hz))
      simp only [List.intercalate, List.intersperse, List.flatten_cons, List.length_append, List.length_cons] at h2 ⊢
      simp at h2 ⊢
      omega
theorem textV_length (t : Tm) (n : Nat) (h : t.ok) (hn : n ≤ 3) : (textV t n).length ≤ 63 := by
  have := join_bound (((nums t).take n).map decI) (by
    intro x hx
    obtain ⟨y, hy, rfl⟩ := List.mem_map.1 hx
    have hy' := List.mem_of_mem_take hy
    simp only [nums, List.mem_cons, List.mem_nil_iff, or_false] at hy'
    rcases hy' with rfl | rfl | rfl
    · exact decI_length _ h.1.2
    · exact decI_length _ h.2.1.2
    · exact decI_length _ h.2.2.2)
  have h2 : (((nums t).take n).map decI).length ≤ 3 := by simp [nums]; omega
  unfold textV
  omega

set_option maxHeartbeats 4000000 in
set_option maxRecDepth 8000 in
theorem text_good (t : Tm) (n : Nat) (w : World) (hg : Glob w) (hok : t.ok) (hn1 : 1 ≤ n) (hn3 : n ≤ 3) (h : fitsV t.a t.b t.c n = 0) :
    Calls Tryz.prog 53 #[tmV t, .int .i64 n] w fun e w' => e = .returned (.tuple #[.string ⟨(textV t n).toArray⟩, .int .i64 0]) ∧ Below w.heap.size w w' := by
  have CF := Lib.hid (fun W => fits_any t.a t.b t.c n W)
  rw [h] at CF
  clear h
  obtain ⟨i0, hi, hz0, hz1, hz2⟩ := info_parts Tryz.info_str
  have HG := Lib.hid hg
  have HO := Lib.hid hok
  clear hg hok
  have hn3' : (n : Int) ≤ 3 := by omega
  have hn0' : (0 : Int) ≤ n := by omega
  obtain ⟨a, b, c⟩ := t
  simp only [tmV] at CF ⊢
  go_enter Tryz.func53, Tryz.ntmps53
  go_wp2_with (first | (go_at_call 29; refine (CF.out _).mono ?_; rintro e w1 ⟨rfl, hb1⟩; obtain ⟨hc1, hf1⟩ := Bel.cells hb1; have hz1' : w.heap.size < w1.heap.size := (by have := hb1.size; simp at this; omega)) | (go_at_call 65; refine (numbers_at a b c _).mono ?_; rintro e w2 ⟨rfl, hb2⟩))
  go_loopw [7, 22] (fun v7 v22 wr => ∃ (k : Nat) (ao : Option Addr) (cv : Nat), k ≤ n ∧ v22 = .int .i64 k ∧ v7 = .slice ao k cv ∧ wr.ownsRow (w2.heap.size + 1) 9 1 v7 k ((strs ⟨a, b, c⟩ k).map Value.string) ∧ Hid (Blk wr w2.heap.size #[.int .u64 a, .int .u64 b, .int .u64 c] 81) ∧ Below w.heap.size w wr) (fun _ v22 _ => n - (intOf v22).toNat)
  case atStart => exact ⟨0, none, 0, Nat.zero_le _, rfl, rfl, World.ownsRow_nil _ _ _ _, Lib.hid (Blk.new _ _ _), by (repeat first | exact Below.refl _ _ | assumption | refine Bel.alloc' ?_ _ | refine Bel.drewN ?_ _ | refine Below.drew ?_ | refine Bel.step' ?_ (by assumption))⟩
  case round =>
    obtain ⟨k, ao, cv, hk, rfl, rfl, hown, HB, hbw⟩ := hrel
    have hlt := HB.out.lt
    have hw2 : w.heap.size < w2.heap.size := by have := hb2.size; omega
    have hwN : w.heap.size < wr.heap.size := by have := hb2.size; omega
    by_cases hkn : k = n
    · obtain rfl : n = k := hkn.symm
      have tlt : ¬ (n : Int) < n := by omega
      obtain ⟨g, rfl, hgl⟩ : ∃ g, ao = some ⟨g, 0, none⟩ ∧ n ≤ cv := by
        rcases hown.2 with ⟨_, h⟩ | ⟨g, cap, cur, h, _, _, hn, _⟩
        · omega
        · simp only [Value.slice.injEq] at h
          exact ⟨g, h.1, by omega⟩
      have hsl := strs_length ⟨a, b, c⟩ n hn3
      have hcells : ∀ (j : Nat) x, (strs ⟨a, b, c⟩ n)[j]? = some x → wr.cell? ⟨g, 0 + j, none⟩ = some (.string x) := by
        intro j x hj
        have hjl := (List.getElem?_eq_some_iff.1 hj).1
        rw [Nat.zero_add, hown.cellAt j (by omega)]
        simp [hj]
      have hg2 : g < wr.heap.size := World.block_lt_of_cell? _ _ (hcells 0 _ (List.getElem?_eq_getElem (by omega)))
      have hjoin := Tryz.strings_Join g 0 cv (strs ⟨a, b, c⟩ n) ⟨#[46]⟩ wr hcells hg2 (by omega) (by omega) (by
        have h1 := textV_length ⟨a, b, c⟩ n HO.out hn3
        rw [← strs_join] at h1
        exact Nat.le_trans h1 (by omega))
      rw [hsl, show (⟨#[46]⟩ : ByteArray).data.toList = [46] from rfl, strs_join] at hjoin
      have CJ := Lib.hid hjoin
      clear hjoin hcells
      go_wp2_with (go_at_call 85; refine CJ.out.mono ?_; rintro e w5 ⟨rfl, hb5⟩)
      go_ret2
      exact ⟨rfl, Bel.step' hbw hb5⟩
    · have hkn' : k < n := by omega
      have tlt : (k : Int) < n := by omega
      rcases (show k = 0 ∨ k = 1 ∨ k = 2 by omega) with rfl | rfl | rfl
      · (have hcell := HB.out.cell 0 _ rfl; have CG := Lib.hid (fun W hW => fmt_int a HO.out.1.1 HO.out.1.2 W hW); go_wp2_with (first | (go_at_call 84; refine (CG.out _ (HG.out.below hbw)).mono ?_; rintro e w3 ⟨rfl, hb3⟩) | (at_builtin; refine wpList_append_own _ rfl _ _ 100 rfl (w2.heap.size + 1) 9 i0 (.string ByteArray.empty) 1 16 Tryz.underlying100 hi hz0 hz1 hz2 rfl (by decide) _ _ _ rfl ((own_below hown hb3).alloc _) ⟨w3.heap.size, 0, none⟩ 1 1 [.string ⟨(decI a).toArray⟩] rfl rfl (cell_one_new _ _ _) (fun x hx => by simp at hx; subst hx; rfl) (by unfold maxLen; omega) (by omega) (by simp; have := hb3.size; omega) ?_; intro v' w4 hown' hgrow4 hnil4)))
        (refine ⟨?_, by simp [intOf]; omega⟩; obtain ⟨g4, cap4, hv4⟩ : ∃ g cap, v' = .slice (some ⟨g, 0, none⟩) 1 cap := (by rcases hown'.2 with ⟨_, h⟩ | ⟨g3, cap3, cur3, h, _⟩ <;> first | exact ⟨_, _, h⟩ | omega); refine ⟨1, some ⟨g4, 0, none⟩, cap4, by omega, rfl, hv4, hown', Lib.hid (((HB.out.below hb3 HB.out.lt).alloc _).grown hgrow4 (by intro hq; have := (hown.lt _ hq.symm).1; omega)), (Bel.alloc' (Bel.step' hbw hb3) _).grown hgrow4 (by have := hb3.size; simp; omega) (fun q hq => by have := (hown.lt q hq).1; omega)⟩)
      · (have hcell := HB.out.cell 1 _ rfl; have CG := Lib.hid (fun W hW => fmt_int b HO.out.2.1.1 HO.out.2.1.2 W hW); go_wp2_with (first | (go_at_call 84; refine (CG.out _ (HG.out.below hbw)).mono ?_; rintro e w3 ⟨rfl, hb3⟩) | (at_builtin; refine wpList_append_own _ rfl _ _ 100 rfl (w2.heap.size + 1) 9 i0 (.string ByteArray.empty) 1 16 Tryz.underlying100 hi hz0 hz1 hz2 rfl (by decide) _ _ _ rfl ((own_below hown hb3).alloc _) ⟨w3.heap.size, 0, none⟩ 1 1 [.string ⟨(decI b).toArray⟩] rfl rfl (cell_one_new _ _ _) (fun x hx => by simp at hx; subst hx; rfl) (by unfold maxLen; omega) (by omega) (by simp; have := hb3.size; omega) ?_; intro v' w4 hown' hgrow4 hnil4)))
        (refine ⟨?_, by simp [intOf]; omega⟩; obtain ⟨g4, cap4, hv4⟩ : ∃ g cap, v' = .slice (some ⟨g, 0, none⟩) 2 cap := (by rcases hown'.2 with ⟨_, h⟩ | ⟨g3, cap3, cur3, h, _⟩ <;> first | exact ⟨_, _, h⟩ | omega); refine ⟨2, some ⟨g4, 0, none⟩, cap4, by omega, rfl, hv4, hown', Lib.hid (((HB.out.below hb3 HB.out.lt).alloc _).grown hgrow4 (by intro hq; have := (hown.lt _ hq.symm).1; omega)), (Bel.alloc' (Bel.step' hbw hb3) _).grown hgrow4 (by have := hb3.size; simp; omega) (fun q hq => by have := (hown.lt q hq).1; omega)⟩)
      · (have hcell := HB.out.cell 2 _ rfl; have CG := Lib.hid (fun W hW => fmt_int c HO.out.2.2.1 HO.out.2.2.2 W hW); go_wp2_with (first | (go_at_call 84; refine (CG.out _ (HG.out.below hbw)).mono ?_; rintro e w3 ⟨rfl, hb3⟩) | (at_builtin; refine wpList_append_own _ rfl _ _ 100 rfl (w2.heap.size + 1) 9 i0 (.string ByteArray.empty) 1 16 Tryz.underlying100 hi hz0 hz1 hz2 rfl (by decide) _ _ _ rfl ((own_below hown hb3).alloc _) ⟨w3.heap.size, 0, none⟩ 1 1 [.string ⟨(decI c).toArray⟩] rfl rfl (cell_one_new _ _ _) (fun x hx => by simp at hx; subst hx; rfl) (by unfold maxLen; omega) (by omega) (by simp; have := hb3.size; omega) ?_; intro v' w4 hown' hgrow4 hnil4)))
        (refine ⟨?_, by simp [intOf]; omega⟩; obtain ⟨g4, cap4, hv4⟩ : ∃ g cap, v' = .slice (some ⟨g, 0, none⟩) 3 cap := (by rcases hown'.2 with ⟨_, h⟩ | ⟨g3, cap3, cur3, h, _⟩ <;> first | exact ⟨_, _, h⟩ | omega); refine ⟨3, some ⟨g4, 0, none⟩, cap4, by omega, rfl, hv4, hown', Lib.hid (((HB.out.below hb3 HB.out.lt).alloc _).grown hgrow4 (by intro hq; have := (hown.lt _ hq.symm).1; omega)), (Bel.alloc' (Bel.step' hbw hb3) _).grown hgrow4 (by have := hb3.size; simp; omega) (fun q hq => by have := (hown.lt q hq).1; omega)⟩)
end Go.Proofs.YtiiegpklpmogmaaGreatDoor
