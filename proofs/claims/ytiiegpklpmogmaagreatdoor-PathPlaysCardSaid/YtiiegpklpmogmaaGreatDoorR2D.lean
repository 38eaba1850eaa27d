/- The document's own answer for chapter 2: Then, On. -/
import Derived.Test.YtiiegpklpmogmaaGreatDoorR2C
set_option linter.unusedVariables false
set_option linter.unusedSimpArgs false
namespace Go.Proofs.YtiiegpklpmogmaaGreatDoor
open Go.RowKit

/-- What the operations of Then's region come up with. -/
def rt (B : Nat) (x y : Tm) (j : Nat) (v : Value) (W : World) : Prop :=
  match j with
  | 0 => v = tmV x
  | 1 => ∃ g, v = .slice (some ⟨g, 0, none⟩) 3 3 ∧ Blk W g (u64s (nums x)) 23
  | 2 => v = tmV y
  | 3 => ∃ g, v = .slice (some ⟨g, 0, none⟩) 3 3 ∧ Blk W g (u64s (nums y)) 23
  | 4 => ∃ l, v = .tuple #[l, .bool (fitsB x y)] ∧ U3 B l (sumT x y).a (sumT x y).b (sumT x y).c W
  | 5 => ∃ l, v = .tuple #[l, .bool (fitsB x y)] ∧ U3 B l (sumT x y).a (sumT x y).b (sumT x y).c W
  | 6 => U3 B v (sumT x y).a (sumT x y).b (sumT x y).c W
  | 7 => v = .bool (fitsB x y)
  | 8 => U3 B v (sumT x y).a (sumT x y).b (sumT x y).c W
  | _ => v = .bool (fitsB x y)
theorem rt_stands {B : Nat} {x y : Tm} {j : Nat} {v : Value} {W W' : World} (h : rt B x y j v W) (hb : Below W.heap.size W W') : rt B x y j v W' := by
  match j with
  | 0 | 2 | 7 => exact h
  | 1 | 3 => obtain ⟨g, e, h1⟩ := h; exact ⟨g, e, h1.later hb⟩
  | 4 | 5 => obtain ⟨l, e, h1⟩ := h; exact ⟨l, e, h1.later hb⟩
  | 6 | 8 => exact U3.later h hb
  | (j + 9) => exact h

set_option maxHeartbeats 8000000 in
set_option maxRecDepth 60000 in
theorem r2then_at (x y : Tm) (hx : x.ok) (hy : y.ok) (w : World) :
    Calls Tryz.prog 32 #[tmV x, tmV y] w fun e w' => e = .returned (.tuple #[tmV (sumT x y), .bool (fitsB x y)]) ∧ Below w.heap.size w w' := by
  have HX := Lib.hid hx
  have HY := Lib.hid hy
  clear hx hy
  obtain ⟨x0, x1, x2⟩ := x
  obtain ⟨y0, y1, y2⟩ := y
  have CX := Lib.hid (fun W => r2num_at x0 x1 x2 W)
  have CY := Lib.hid (fun W => r2num_at y0 y1 y2 W)
  simp only [tmV]
  go_enter Tryz.func32, Tryz.ntmps32
  go_upto_region 1 with fail
  have HP := Lib.hid (((Blk.new w #[.int .u64 x0, .int .u64 x1, .int .u64 x2] 40).alloc (.cells #[.int .u64 y0, .int .u64 y1, .int .u64 y2] 40)).alloc (.cells #[.int .u64 0, .int .u64 0, .int .u64 0] 40))
  have HQ : Hid (Blk (((w.alloc (.cells #[.int .u64 x0, .int .u64 x1, .int .u64 x2] 40)).alloc (.cells #[.int .u64 y0, .int .u64 y1, .int .u64 y2] 40)).alloc (.cells #[.int .u64 0, .int .u64 0, .int .u64 0] 40)) (w.heap.size + 1) #[.int .u64 y0, .int .u64 y1, .int .u64 y2] 40) := Lib.hid ((Blk.new' (by simp)).alloc _)
  have HR0 : Hid (Blk (((w.alloc (.cells #[.int .u64 x0, .int .u64 x1, .int .u64 x2] 40)).alloc (.cells #[.int .u64 y0, .int .u64 y1, .int .u64 y2] 40)).alloc (.cells #[.int .u64 0, .int .u64 0, .int .u64 0] 40)) (w.heap.size + 1 + 1) #[.int .u64 0, .int .u64 0, .int .u64 0] 40) := Lib.hid (Blk.new' (by simp))
  have hb0 : Below w.heap.size w (((w.alloc (.cells #[.int .u64 x0, .int .u64 x1, .int .u64 x2] 40)).alloc (.cells #[.int .u64 y0, .int .u64 y1, .int .u64 y2] 40)).alloc (.cells #[.int .u64 0, .int .u64 0, .int .u64 0] 40)) := by (repeat first | exact Below.refl _ _ | assumption | refine Bel.alloc' ?_ _ | refine Bel.drewN ?_ _ | refine Below.drew ?_ | refine Bel.step' ?_ (by assumption))
  generalize ((w.alloc (.cells #[.int .u64 x0, .int .u64 x1, .int .u64 x2] 40)).alloc (.cells #[.int .u64 y0, .int .u64 y1, .int .u64 y2] 40)).alloc (.cells #[.int .u64 0, .int .u64 0, .int .u64 0] 40) = wz at *
  refine wp_region_facts5 10 (rt wz.heap.size ⟨x0, x1, x2⟩ ⟨y0, y1, y2⟩) (fun _ => none) (by kernel_rfl) (by kernel_rfl) (by kernel_rfl) (fun j b v W hg => by cases hg) (fun j v W W' h hb => rt_stands h hb) ?op ?en
  case op =>
    simp only [List.take_succ_cons, List.take_zero, Fct.obl5]
    refine ⟨fun us W hW hR A' hf => ?_, fun us W hW hR A' hf => ?_, fun us W hW hR A' hf => ?_, fun us W hW hR A' hf => ?_, fun us W hW hR A' hf => ?_, fun us W hW hR A' hf => ?_, fun us W hW hR A' hf => ?_, fun us W hW hR A' hf => ?_, fun us W hW hR A' hf => ?_, fun us W hW hR A' hf => ?_, trivial⟩
    case refine_1 => as_aux_lemma => (have e1 : A'.tmps.getD 2 undef = .pointer (some ⟨w.heap.size, 0, none⟩) := hf 2; have hB := (HP.out).later hW; have y0 := hB.cell 0 _ rfl; have y1 := hB.cell 1 _ rfl; have y2 := hB.cell 2 _ rfl; clear hf hR hB; unfold Fct.opOnly; go_simp; exact ⟨_, rfl, Below.refl _ _, rfl⟩)
    case refine_2 => as_aux_lemma => (have h1 : us 0 = .agg #[.int .u64 x0, .int .u64 x1, .int .u64 x2] := hR 0 (by kernel_rfl); have e1 : A'.tmps.getD 9 undef = .agg #[.int .u64 x0, .int .u64 x1, .int .u64 x2] := (hf 9).trans h1; clear hf hR h1; unfold Fct.opOnly; go_simp; refine ((CX).out W).mono ?_; rintro e w1 ⟨g, rfl, hB, hg, hb⟩; exact ⟨_, rfl, hb, ⟨g, rfl, hB⟩⟩)
    case refine_3 => as_aux_lemma => (have e1 : A'.tmps.getD 3 undef = .pointer (some ⟨w.heap.size + 1, 0, none⟩) := hf 3; have hB := (HQ.out).later hW; have y0 := hB.cell 0 _ rfl; have y1 := hB.cell 1 _ rfl; have y2 := hB.cell 2 _ rfl; clear hf hR hB; unfold Fct.opOnly; go_simp; exact ⟨_, rfl, Below.refl _ _, rfl⟩)
    case refine_4 => as_aux_lemma => (have h1 : us 2 = .agg #[.int .u64 y0, .int .u64 y1, .int .u64 y2] := hR 2 (by kernel_rfl); have e1 : A'.tmps.getD 11 undef = .agg #[.int .u64 y0, .int .u64 y1, .int .u64 y2] := (hf 11).trans h1; clear hf hR h1; unfold Fct.opOnly; go_simp; refine ((CY).out W).mono ?_; rintro e w1 ⟨g, rfl, hB, hg, hb⟩; exact ⟨_, rfl, hb, ⟨g, rfl, hB⟩⟩)
    case refine_5 => as_aux_lemma => (have h1 : ∃ g, us 1 = .slice (some ⟨g, 0, none⟩) 3 3 ∧ Blk W g (u64s (nums ⟨x0, x1, x2⟩)) 23 := hR 1 (by kernel_rfl); have h2 : ∃ g, us 3 = .slice (some ⟨g, 0, none⟩) 3 3 ∧ Blk W g (u64s (nums ⟨y0, y1, y2⟩)) 23 := hR 3 (by kernel_rfl); obtain ⟨g1, h1, hB1⟩ := h1; obtain ⟨g2, h2, hB2⟩ := h2; have e1 : A'.tmps.getD 10 undef = .slice (some ⟨g1, 0, none⟩) 3 3 := (hf 10).trans h1; have e2 : A'.tmps.getD 12 undef = .slice (some ⟨g2, 0, none⟩) 3 3 := (hf 12).trans h2; have HS := Lib.hid (r2sums_at ⟨x0, x1, x2⟩ ⟨y0, y1, y2⟩ HX.out HY.out g1 g2 W hB1 hB2); have hWs := hW.size; clear hf hR h1 h2 hB1 hB2; unfold Fct.opOnly; go_simp; refine HS.out.mono ?_; rintro e w1 ⟨l, rfl, hu, hb⟩; exact ⟨_, rfl, hb, ⟨l, rfl, hu.base hWs⟩⟩)
    case refine_6 => as_aux_lemma => (have h1 : ∃ l, us 4 = .tuple #[l, .bool (fitsB ⟨x0, x1, x2⟩ ⟨y0, y1, y2⟩)] ∧ U3 wz.heap.size l (sumT ⟨x0, x1, x2⟩ ⟨y0, y1, y2⟩).a (sumT ⟨x0, x1, x2⟩ ⟨y0, y1, y2⟩).b (sumT ⟨x0, x1, x2⟩ ⟨y0, y1, y2⟩).c W := hR 4 (by kernel_rfl); obtain ⟨l, h1, hu⟩ := h1; have e1 : A'.tmps.getD 13 undef = _ := (hf 13).trans h1; have HU := Lib.hid hu; clear hf hR h1 hu; unfold Fct.opOnly; go_simp; first | exact ⟨_, rfl, Below.refl _ _, ⟨l, rfl, HU.out⟩⟩ | exact ⟨_, rfl, Below.refl _ _, HU.out⟩ | exact ⟨_, rfl, Below.refl _ _, rfl⟩)
    case refine_7 => as_aux_lemma => (have h1 : ∃ l, us 5 = .tuple #[l, .bool (fitsB ⟨x0, x1, x2⟩ ⟨y0, y1, y2⟩)] ∧ U3 wz.heap.size l (sumT ⟨x0, x1, x2⟩ ⟨y0, y1, y2⟩).a (sumT ⟨x0, x1, x2⟩ ⟨y0, y1, y2⟩).b (sumT ⟨x0, x1, x2⟩ ⟨y0, y1, y2⟩).c W := hR 5 (by kernel_rfl); obtain ⟨l, h1, hu⟩ := h1; have e1 : A'.tmps.getD 8 undef = _ := (hf 8).trans h1; have HU := Lib.hid hu; clear hf hR h1 hu; unfold Fct.opOnly; go_simp; first | exact ⟨_, rfl, Below.refl _ _, ⟨l, rfl, HU.out⟩⟩ | exact ⟨_, rfl, Below.refl _ _, HU.out⟩ | exact ⟨_, rfl, Below.refl _ _, rfl⟩)
    case refine_8 => as_aux_lemma => (have h1 : ∃ l, us 5 = .tuple #[l, .bool (fitsB ⟨x0, x1, x2⟩ ⟨y0, y1, y2⟩)] ∧ U3 wz.heap.size l (sumT ⟨x0, x1, x2⟩ ⟨y0, y1, y2⟩).a (sumT ⟨x0, x1, x2⟩ ⟨y0, y1, y2⟩).b (sumT ⟨x0, x1, x2⟩ ⟨y0, y1, y2⟩).c W := hR 5 (by kernel_rfl); obtain ⟨l, h1, hu⟩ := h1; have e1 : A'.tmps.getD 8 undef = _ := (hf 8).trans h1; have HU := Lib.hid hu; clear hf hR h1 hu; unfold Fct.opOnly; go_simp; first | exact ⟨_, rfl, Below.refl _ _, ⟨l, rfl, HU.out⟩⟩ | exact ⟨_, rfl, Below.refl _ _, HU.out⟩ | exact ⟨_, rfl, Below.refl _ _, rfl⟩)
    case refine_9 => as_aux_lemma => (have h1 : U3 wz.heap.size (us 6) (sumT ⟨x0, x1, x2⟩ ⟨y0, y1, y2⟩).a (sumT ⟨x0, x1, x2⟩ ⟨y0, y1, y2⟩).b (sumT ⟨x0, x1, x2⟩ ⟨y0, y1, y2⟩).c W := hR 6 (by kernel_rfl); have e1 : A'.tmps.getD 14 undef = us 6 := hf 14; have HU := Lib.hid h1; clear hf hR h1; unfold Fct.opOnly; go_simp; exact ⟨_, rfl, Below.refl _ _, HU.out⟩)
    case refine_10 => as_aux_lemma => (have h1 : us 7 = .bool (fitsB ⟨x0, x1, x2⟩ ⟨y0, y1, y2⟩) := hR 7 (by kernel_rfl); have e1 : A'.tmps.getD 15 undef = _ := (hf 15).trans h1; clear hf hR h1; unfold Fct.opOnly; go_simp; exact ⟨_, rfl, Below.refl _ _, rfl⟩)
  case en =>
    intro us W hW hR
    as_aux_lemma =>
      have k8 : U3 wz.heap.size (us 8) (sumT ⟨x0, x1, x2⟩ ⟨y0, y1, y2⟩).a (sumT ⟨x0, x1, x2⟩ ⟨y0, y1, y2⟩).b (sumT ⟨x0, x1, x2⟩ ⟨y0, y1, y2⟩).c W := hR 8 (by omega)
      have k9 : us 9 = .bool (fitsB ⟨x0, x1, x2⟩ ⟨y0, y1, y2⟩) := hR 9 (by omega)
      clear hR
      generalize hv : fitsB ⟨x0, x1, x2⟩ ⟨y0, y1, y2⟩ = v at *
      generalize hm : sumT ⟨x0, x1, x2⟩ ⟨y0, y1, y2⟩ = m at *
      obtain ⟨m0, m1, m2⟩ := m
      have HV := Lib.hid hv
      have HM := Lib.hid hm
      clear hv hm
      obtain ⟨g, c, e8, hBg, h3, hcm, c0, c1, c2, hgl⟩ := k8
      have HPT := Lib.hid (r2path_u3 g c m0 m1 m2 W h3 hcm c0 c1 c2 hgl)
      simp only [List.take_succ_cons, List.take_zero, List.drop_succ_cons, List.drop_zero, Fct.fin, e8, k9, Act.put, List.setIfInBounds_toArray, List.set_cons_zero, List.set_cons_succ]
      clear e8 k9 c0 c1 c2
      have HRW := Lib.hid (HR0.out.later hW)
      have hbW : Below w.heap.size w W := hb0.trans (hW.mono hb0.size)
      go_upto_region 2 with fail
      go_wp2_with (go_at_call 74; refine HPT.out.mono ?_; rintro e w1 ⟨rfl, hb1⟩; have hrW := HRW.out.later hb1; have p0 := hrW.cell 0 _ rfl; have p1 := hrW.cell 1 _ rfl; have p2 := hrW.cell 2 _ rfl; have pf := hrW.frozen; clear hrW)
      obtain ⟨HR, hbZ⟩ := res3 (x := .int .u64 m0) (y := .int .u64 m1) (z := .int .u64 m2) HRW.out hb1 hbW (show w.heap.size ≤ w.heap.size + 1 + 1 by omega)
      clear p0 p1 p2 pf
      generalize (((w1.setCell ⟨w.heap.size + 1 + 1, 0, none⟩ (.int .u64 m0)).setCell ⟨w.heap.size + 1 + 1, 1, none⟩ (.int .u64 m1)).setCell ⟨w.heap.size + 1 + 1, 2, none⟩ (.int .u64 m2)) = Z at HR hbZ ⊢
      have z0 := HR.cell 0 _ rfl
      have z1 := HR.cell 1 _ rfl
      have z2 := HR.cell 2 _ rfl
      refine bodyPost_ret (v := .tuple #[.agg #[.int .u64 m0, .int .u64 m1, .int .u64 m2], .bool v]) (by simp [results, Tryz.results32, go_sem, z0, z1, z2]) rfl ⟨by rw [HV.out, HM.out], hbZ⟩

/-- What the operations of On's region come up with. -/
def ro (B bt : Nat) (x y : Tm) (j : Nat) (v : Value) (W : World) : Prop :=
  match j with
  | 0 => v = tmV x
  | 1 => ∃ g, v = .slice (some ⟨g, 0, none⟩) 3 3 ∧ Blk W g (u64s (nums x)) 23
  | 2 => v = .pointer (some ⟨bt, 0, none⟩)
  | 3 => v = .int .u64 y.a
  | 4 => v = .pointer (some ⟨bt, 1, none⟩)
  | 5 => v = .int .u64 y.b
  | 6 => v = .pointer (some ⟨bt, 2, none⟩)
  | 7 => v = .int .u64 y.c
  | 8 => ∃ g, v = .slice (some ⟨g, 0, none⟩) 3 3 ∧ Blk W g (u64s (nums y)) 23
  | 9 => ∃ l, v = .tuple #[l, .bool (fitsB x y)] ∧ U3 B l (sumT x y).a (sumT x y).b (sumT x y).c W
  | 10 => ∃ l, v = .tuple #[l, .bool (fitsB x y)] ∧ U3 B l (sumT x y).a (sumT x y).b (sumT x y).c W
  | 11 => U3 B v (sumT x y).a (sumT x y).b (sumT x y).c W
  | 12 => v = .bool (fitsB x y)
  | 13 => U3 B v (sumT x y).a (sumT x y).b (sumT x y).c W
  | _ => v = .bool (fitsB x y)
theorem ro_stands {B bt : Nat} {x y : Tm} {j : Nat} {v : Value} {W W' : World} (h : ro B bt x y j v W) (hb : Below W.heap.size W W') : ro B bt x y j v W' := by
  match j with
  | 0 | 2 | 3 | 4 | 5 | 6 | 7 | 12 => exact h
  | 1 | 8 => obtain ⟨g, e, h1⟩ := h; exact ⟨g, e, h1.later hb⟩
  | 9 | 10 => obtain ⟨l, e, h1⟩ := h; exact ⟨l, e, h1.later hb⟩
  | 11 | 13 => exact U3.later h hb
  | (j + 14) => exact h

/-- What stands while On's second region goes on. -/
def on2 (w wz : World) (r g c : Nat) (m0 m1 m2 : Int) (v : Bool) (L : Nat → Bool) (us : Nat → Value) (W : World) : Prop :=
  W.heap[g]? = wz.heap[g]? ∧ Blk W r (cond (L 11) #[.int .u64 m0, .int .u64 m1, .int .u64 m2] #[.int .u64 0, .int .u64 0, .int .u64 0]) 25 ∧ Below w.heap.size w W ∧
  (∀ j, L j = true → j ≠ 11 → (if j = 10 ∨ j = 12 then us j = .bool v else rp g c m0 m1 m2 j (us j) W))
end Go.Proofs.YtiiegpklpmogmaaGreatDoor
