/- The document's own answer for chapter 2: On. -/
import Derived.Test.YtiiegpklpmogmaaGreatDoorR2D
set_option linter.unusedVariables false
set_option linter.unusedSimpArgs false
namespace Go.Proofs.YtiiegpklpmogmaaGreatDoor
open Go.RowKit

theorem cell_heap {W W' : World} {k : Nat} (h : W.heap[k]? = W'.heap[k]?) (i : Nat) : W.cell? ⟨k, i, none⟩ = W'.cell? ⟨k, i, none⟩ := by simp [World.cell?, h]
theorem on2.pure {w wz : World} {r g c k : Nat} {m0 m1 m2 : Int} {v : Bool} {L : Nat → Bool} {us : Nat → Value} {W : World} {v' : Value} (hk : k ≠ 11) (hv : if k = 10 ∨ k = 12 then v' = .bool v else rp g c m0 m1 m2 k v' W) (h : on2 w wz r g c m0 m1 m2 v L us W) :
    on2 w wz r g c m0 m1 m2 v (Fct.mark L k) (Fct.laid us k v') W := by
  obtain ⟨h1, h2, h3, h4⟩ := h
  refine ⟨h1, ?_, h3, fun j hj hj11 => ?_⟩
  · have e : Fct.mark L k 11 = L 11 := by unfold Fct.mark; rw [if_neg (Ne.symm hk)]
    rw [e]; exact h2
  · by_cases hjk : j = k
    · subst hjk
      have e : Fct.laid us j v' j = v' := by unfold Fct.laid; rw [if_pos rfl]
      rw [e]; exact hv
    · have e : Fct.laid us k v' j = us j := by unfold Fct.laid; rw [if_neg hjk]
      rw [e]
      refine h4 j ?_ hj11
      unfold Fct.mark at hj
      rwa [if_neg hjk] at hj
theorem on2.store {w wz : World} {r g c : Nat} {m0 m1 m2 : Int} {v : Bool} {L : Nat → Bool} {us : Nat → Value} {W : World} {v' : Value} (hl : L 11 = false) (hgr : g ≠ r) (hwr : w.heap.size ≤ r) (h : on2 w wz r g c m0 m1 m2 v L us W) :
    on2 w wz r g c m0 m1 m2 v (Fct.mark L 11) (Fct.laid us 11 v') (((W.setCell ⟨r, 0, none⟩ (.int .u64 m0)).setCell ⟨r, 1, none⟩ (.int .u64 m1)).setCell ⟨r, 2, none⟩ (.int .u64 m2)) := by
  obtain ⟨h1, h2, h3, h4⟩ := h
  rw [hl] at h2
  refine ⟨?_, ?_, ((h3.setCell (p := ⟨r, 0, none⟩) hwr _).setCell (p := ⟨r, 1, none⟩) hwr _).setCell (p := ⟨r, 2, none⟩) hwr _, fun j hj hj11 => ?_⟩
  · rw [← h1]
    exact ((Below.heap_setCell _ ⟨r, 2, none⟩ _ g hgr).trans ((Below.heap_setCell _ ⟨r, 1, none⟩ _ g hgr).trans (Below.heap_setCell _ ⟨r, 0, none⟩ _ g hgr)))
  · have e : Fct.mark L 11 11 = true := by unfold Fct.mark; rw [if_pos rfl]
    rw [e]
    exact ((Blk.set h2 0 _).set 1 _).set 2 _
  · have e : Fct.laid us 11 v' j = us j := by unfold Fct.laid; rw [if_neg hj11]
    rw [e]
    have hj' : L j = true := by unfold Fct.mark at hj; rwa [if_neg hj11] at hj
    exact h4 j hj' hj11

set_option maxHeartbeats 8000000 in
set_option maxRecDepth 60000 in
theorem r2on_at (x y : Tm) (hx : x.ok) (hy : y.ok) (w : World) :
    Calls Tryz.prog 34 #[tmV x, tmV y] w fun e w' => e = .returned (.tuple #[tmV (sumT x y), .bool (fitsB x y)]) ∧ Below w.heap.size w w' := by
  have HX := Lib.hid hx
  have HY := Lib.hid hy
  clear hx hy
  obtain ⟨x0, x1, x2⟩ := x
  obtain ⟨y0, y1, y2⟩ := y
  have CX := Lib.hid (fun W => r2num_at x0 x1 x2 W)
  simp only [tmV]
  go_enter Tryz.func34, Tryz.ntmps34
  go_upto_region 1 with fail
  have HP := Lib.hid (((Blk.new w #[.int .u64 x0, .int .u64 x1, .int .u64 x2] 40).alloc (.cells #[.int .u64 y0, .int .u64 y1, .int .u64 y2] 25)).alloc (.cells #[.int .u64 0, .int .u64 0, .int .u64 0] 25))
  have HQ : Hid (Blk (((w.alloc (.cells #[.int .u64 x0, .int .u64 x1, .int .u64 x2] 40)).alloc (.cells #[.int .u64 y0, .int .u64 y1, .int .u64 y2] 25)).alloc (.cells #[.int .u64 0, .int .u64 0, .int .u64 0] 25)) (w.heap.size + 1) #[.int .u64 y0, .int .u64 y1, .int .u64 y2] 25) := Lib.hid ((Blk.new' (by simp)).alloc _)
  have HR0 : Hid (Blk (((w.alloc (.cells #[.int .u64 x0, .int .u64 x1, .int .u64 x2] 40)).alloc (.cells #[.int .u64 y0, .int .u64 y1, .int .u64 y2] 25)).alloc (.cells #[.int .u64 0, .int .u64 0, .int .u64 0] 25)) (w.heap.size + 1 + 1) #[.int .u64 0, .int .u64 0, .int .u64 0] 25) := Lib.hid (Blk.new' (by simp))
  have hb0 : Below w.heap.size w (((w.alloc (.cells #[.int .u64 x0, .int .u64 x1, .int .u64 x2] 40)).alloc (.cells #[.int .u64 y0, .int .u64 y1, .int .u64 y2] 25)).alloc (.cells #[.int .u64 0, .int .u64 0, .int .u64 0] 25)) := by (repeat first | exact Below.refl _ _ | assumption | refine Bel.alloc' ?_ _ | refine Bel.drewN ?_ _ | refine Below.drew ?_ | refine Bel.step' ?_ (by assumption))
  have hsz0 : w.heap.size + 1 + 1 < (((w.alloc (.cells #[.int .u64 x0, .int .u64 x1, .int .u64 x2] 40)).alloc (.cells #[.int .u64 y0, .int .u64 y1, .int .u64 y2] 25)).alloc (.cells #[.int .u64 0, .int .u64 0, .int .u64 0] 25)).heap.size := by simp
  generalize ((w.alloc (.cells #[.int .u64 x0, .int .u64 x1, .int .u64 x2] 40)).alloc (.cells #[.int .u64 y0, .int .u64 y1, .int .u64 y2] 25)).alloc (.cells #[.int .u64 0, .int .u64 0, .int .u64 0] 25) = wz at *
  refine wp_region_facts5 15 (ro wz.heap.size (w.heap.size + 1) ⟨x0, x1, x2⟩ ⟨y0, y1, y2⟩) (fun _ => none) (by kernel_rfl) (by kernel_rfl) (by kernel_rfl) (fun j b v W hg => by cases hg) (fun j v W W' h hb => ro_stands h hb) ?op ?en
  case op =>
    simp only [List.take_succ_cons, List.take_zero, Fct.obl5]
    refine ⟨fun us W hW hR A' hf => ?_, fun us W hW hR A' hf => ?_, fun us W hW hR A' hf => ?_, fun us W hW hR A' hf => ?_, fun us W hW hR A' hf => ?_, fun us W hW hR A' hf => ?_, fun us W hW hR A' hf => ?_, fun us W hW hR A' hf => ?_, fun us W hW hR A' hf => ?_, fun us W hW hR A' hf => ?_, fun us W hW hR A' hf => ?_, fun us W hW hR A' hf => ?_, fun us W hW hR A' hf => ?_, fun us W hW hR A' hf => ?_, fun us W hW hR A' hf => ?_, trivial⟩
    case refine_1 => as_aux_lemma => (have e1 : A'.tmps.getD 2 undef = .pointer (some ⟨w.heap.size, 0, none⟩) := hf 2; have hB := (HP.out).later hW; have y0 := hB.cell 0 _ rfl; have y1 := hB.cell 1 _ rfl; have y2 := hB.cell 2 _ rfl; clear hf hR hB; unfold Fct.opOnly; go_simp; exact ⟨_, rfl, Below.refl _ _, rfl⟩)
    case refine_2 => as_aux_lemma => (have h1 : us 0 = .agg #[.int .u64 x0, .int .u64 x1, .int .u64 x2] := hR 0 (by kernel_rfl); have e1 : A'.tmps.getD 9 undef = .agg #[.int .u64 x0, .int .u64 x1, .int .u64 x2] := (hf 9).trans h1; clear hf hR h1; unfold Fct.opOnly; go_simp; refine ((CX).out W).mono ?_; rintro e w1 ⟨g, rfl, hB, hg, hb⟩; exact ⟨_, rfl, hb, ⟨g, rfl, hB⟩⟩)
    case refine_3 => as_aux_lemma => (have e1 : A'.tmps.getD 3 undef = .pointer (some ⟨w.heap.size + 1, 0, none⟩) := hf 3; clear hf hR; unfold Fct.opOnly; go_simp; exact ⟨_, rfl, Below.refl _ _, rfl⟩)
    case refine_4 => as_aux_lemma => (have h1 : us 2 = .pointer (some ⟨w.heap.size + 1, 0, none⟩) := hR 2 (by kernel_rfl); have e1 : A'.tmps.getD 11 undef = .pointer (some ⟨w.heap.size + 1, 0, none⟩) := (hf 11).trans h1; have y0 := (HQ.out.later hW).cell 0 _ rfl; clear hf hR h1; unfold Fct.opOnly; go_simp; exact ⟨_, rfl, Below.refl _ _, rfl⟩)
    case refine_5 => as_aux_lemma => (have e1 : A'.tmps.getD 3 undef = .pointer (some ⟨w.heap.size + 1, 0, none⟩) := hf 3; clear hf hR; unfold Fct.opOnly; go_simp; exact ⟨_, rfl, Below.refl _ _, rfl⟩)
    case refine_6 => as_aux_lemma => (have h1 : us 4 = .pointer (some ⟨w.heap.size + 1, 1, none⟩) := hR 4 (by kernel_rfl); have e1 : A'.tmps.getD 13 undef = .pointer (some ⟨w.heap.size + 1, 1, none⟩) := (hf 13).trans h1; have y0 := (HQ.out.later hW).cell 1 _ rfl; clear hf hR h1; unfold Fct.opOnly; go_simp; exact ⟨_, rfl, Below.refl _ _, rfl⟩)
    case refine_7 => as_aux_lemma => (have e1 : A'.tmps.getD 3 undef = .pointer (some ⟨w.heap.size + 1, 0, none⟩) := hf 3; clear hf hR; unfold Fct.opOnly; go_simp; exact ⟨_, rfl, Below.refl _ _, rfl⟩)
    case refine_8 => as_aux_lemma => (have h1 : us 6 = .pointer (some ⟨w.heap.size + 1, 2, none⟩) := hR 6 (by kernel_rfl); have e1 : A'.tmps.getD 15 undef = .pointer (some ⟨w.heap.size + 1, 2, none⟩) := (hf 15).trans h1; have y0 := (HQ.out.later hW).cell 2 _ rfl; clear hf hR h1; unfold Fct.opOnly; go_simp; exact ⟨_, rfl, Below.refl _ _, rfl⟩)
    case refine_9 => as_aux_lemma =>
      have h1 : us 3 = .int .u64 y0 := hR 3 (by kernel_rfl)
      have h2 : us 5 = .int .u64 y1 := hR 5 (by kernel_rfl)
      have h3 : us 7 = .int .u64 y2 := hR 7 (by kernel_rfl)
      have e1 : A'.tmps.getD 12 undef = .int .u64 y0 := (hf 12).trans h1
      have e2 : A'.tmps.getD 14 undef = .int .u64 y1 := (hf 14).trans h2
      have e3 : A'.tmps.getD 16 undef = .int .u64 y2 := (hf 16).trans h3
      clear hf hR h1 h2 h3 HP HQ HR0 HX HY CX
      unfold Fct.opOnly Oper.wp
      simp only [execOp, Act.eval, List.map_toArray, List.map_cons, List.map_nil]
      rw [e1, e2, e3]
      clear e1 e2 e3
      go_simp
      exact ⟨_, rfl, Bel.alloc' (Below.refl _ _) _, ⟨_, rfl, Blk.new _ _ _⟩⟩
    case refine_10 => as_aux_lemma => (have h1 : ∃ g, us 1 = .slice (some ⟨g, 0, none⟩) 3 3 ∧ Blk W g (u64s (nums ⟨x0, x1, x2⟩)) 23 := hR 1 (by kernel_rfl); have h2 : ∃ g, us 8 = .slice (some ⟨g, 0, none⟩) 3 3 ∧ Blk W g (u64s (nums ⟨y0, y1, y2⟩)) 23 := hR 8 (by kernel_rfl); obtain ⟨g1, h1, hB1⟩ := h1; obtain ⟨g2, h2, hB2⟩ := h2; have e1 : A'.tmps.getD 10 undef = .slice (some ⟨g1, 0, none⟩) 3 3 := (hf 10).trans h1; have e2 : A'.tmps.getD 17 undef = .slice (some ⟨g2, 0, none⟩) 3 3 := (hf 17).trans h2; have HS := Lib.hid (r2sums_at ⟨x0, x1, x2⟩ ⟨y0, y1, y2⟩ HX.out HY.out g1 g2 W hB1 hB2); have hWs := hW.size; clear hf hR h1 h2 hB1 hB2; unfold Fct.opOnly; go_simp; refine HS.out.mono ?_; rintro e w1 ⟨l, rfl, hu, hb⟩; exact ⟨_, rfl, hb, ⟨l, rfl, hu.base hWs⟩⟩)
    case refine_11 => as_aux_lemma => (have h1 : ∃ l, us 9 = .tuple #[l, .bool (fitsB ⟨x0, x1, x2⟩ ⟨y0, y1, y2⟩)] ∧ U3 wz.heap.size l (sumT ⟨x0, x1, x2⟩ ⟨y0, y1, y2⟩).a (sumT ⟨x0, x1, x2⟩ ⟨y0, y1, y2⟩).b (sumT ⟨x0, x1, x2⟩ ⟨y0, y1, y2⟩).c W := hR 9 (by kernel_rfl); obtain ⟨l, h1, hu⟩ := h1; have e1 : A'.tmps.getD 18 undef = _ := (hf 18).trans h1; have HU := Lib.hid hu; clear hf hR h1 hu; unfold Fct.opOnly; go_simp; first | exact ⟨_, rfl, Below.refl _ _, ⟨l, rfl, HU.out⟩⟩ | exact ⟨_, rfl, Below.refl _ _, HU.out⟩ | exact ⟨_, rfl, Below.refl _ _, rfl⟩)
    case refine_12 => as_aux_lemma => (have h1 : ∃ l, us 10 = .tuple #[l, .bool (fitsB ⟨x0, x1, x2⟩ ⟨y0, y1, y2⟩)] ∧ U3 wz.heap.size l (sumT ⟨x0, x1, x2⟩ ⟨y0, y1, y2⟩).a (sumT ⟨x0, x1, x2⟩ ⟨y0, y1, y2⟩).b (sumT ⟨x0, x1, x2⟩ ⟨y0, y1, y2⟩).c W := hR 10 (by kernel_rfl); obtain ⟨l, h1, hu⟩ := h1; have e1 : A'.tmps.getD 8 undef = _ := (hf 8).trans h1; have HU := Lib.hid hu; clear hf hR h1 hu; unfold Fct.opOnly; go_simp; first | exact ⟨_, rfl, Below.refl _ _, ⟨l, rfl, HU.out⟩⟩ | exact ⟨_, rfl, Below.refl _ _, HU.out⟩ | exact ⟨_, rfl, Below.refl _ _, rfl⟩)
    case refine_13 => as_aux_lemma => (have h1 : ∃ l, us 10 = .tuple #[l, .bool (fitsB ⟨x0, x1, x2⟩ ⟨y0, y1, y2⟩)] ∧ U3 wz.heap.size l (sumT ⟨x0, x1, x2⟩ ⟨y0, y1, y2⟩).a (sumT ⟨x0, x1, x2⟩ ⟨y0, y1, y2⟩).b (sumT ⟨x0, x1, x2⟩ ⟨y0, y1, y2⟩).c W := hR 10 (by kernel_rfl); obtain ⟨l, h1, hu⟩ := h1; have e1 : A'.tmps.getD 8 undef = _ := (hf 8).trans h1; have HU := Lib.hid hu; clear hf hR h1 hu; unfold Fct.opOnly; go_simp; first | exact ⟨_, rfl, Below.refl _ _, ⟨l, rfl, HU.out⟩⟩ | exact ⟨_, rfl, Below.refl _ _, HU.out⟩ | exact ⟨_, rfl, Below.refl _ _, rfl⟩)
    case refine_14 => as_aux_lemma => (have h1 : U3 wz.heap.size (us 11) (sumT ⟨x0, x1, x2⟩ ⟨y0, y1, y2⟩).a (sumT ⟨x0, x1, x2⟩ ⟨y0, y1, y2⟩).b (sumT ⟨x0, x1, x2⟩ ⟨y0, y1, y2⟩).c W := hR 11 (by kernel_rfl); have e1 : A'.tmps.getD 19 undef = us 11 := hf 19; have HU := Lib.hid h1; clear hf hR h1; unfold Fct.opOnly; go_simp; exact ⟨_, rfl, Below.refl _ _, HU.out⟩)
    case refine_15 => as_aux_lemma => (have h1 : us 12 = .bool (fitsB ⟨x0, x1, x2⟩ ⟨y0, y1, y2⟩) := hR 12 (by kernel_rfl); have e1 : A'.tmps.getD 20 undef = _ := (hf 20).trans h1; clear hf hR h1; unfold Fct.opOnly; go_simp; exact ⟨_, rfl, Below.refl _ _, rfl⟩)
  case en =>
    intro us W hW hR
    as_aux_lemma =>
      have k8 : U3 wz.heap.size (us 13) (sumT ⟨x0, x1, x2⟩ ⟨y0, y1, y2⟩).a (sumT ⟨x0, x1, x2⟩ ⟨y0, y1, y2⟩).b (sumT ⟨x0, x1, x2⟩ ⟨y0, y1, y2⟩).c W := hR 13 (by omega)
      have k9 : us 14 = .bool (fitsB ⟨x0, x1, x2⟩ ⟨y0, y1, y2⟩) := hR 14 (by omega)
      clear hR
      generalize hv : fitsB ⟨x0, x1, x2⟩ ⟨y0, y1, y2⟩ = v at *
      generalize hm : sumT ⟨x0, x1, x2⟩ ⟨y0, y1, y2⟩ = m at *
      obtain ⟨m0, m1, m2⟩ := m
      have HV := Lib.hid hv
      have HM := Lib.hid hm
      clear hv hm
      obtain ⟨g, c, e8, hBg, h3, hcm, c0, c1, c2, hgl⟩ := k8
      simp only [List.take_succ_cons, List.take_zero, List.drop_succ_cons, List.drop_zero, Fct.fin, e8, k9, Act.put, List.setIfInBounds_toArray, List.set_cons_zero, List.set_cons_succ]
      clear e8 k9
      have C0 := Lib.hid c0
      have C1 := Lib.hid c1
      have C2 := Lib.hid c2
      clear c0 c1 c2
      have HRW := Lib.hid (HR0.out.later hW)
      have hbW : Below w.heap.size w W := hb0.trans (hW.mono hb0.size)
      have hgr : g ≠ w.heap.size + 1 + 1 := by omega
      go_upto_region 2 with fail
      go_wp2_with fail
      refine wp_region_facts3 13 (on2 w W (w.heap.size + 1 + 1) g c m0 m1 m2 v) (by kernel_rfl) (by kernel_rfl) (fun us => ⟨rfl, HRW.out, hbW.drew, fun j h => by cases h⟩) ?op2 ?en2
      case op2 =>
        simp only [List.take_succ_cons, List.take_zero, Fct.obl3]
        refine ⟨fun L us W' hLk hI hd hcl A' hf => ?_, fun L us W' hLk hI hd hcl A' hf => ?_, fun L us W' hLk hI hd hcl A' hf => ?_, fun L us W' hLk hI hd hcl A' hf => ?_, fun L us W' hLk hI hd hcl A' hf => ?_, fun L us W' hLk hI hd hcl A' hf => ?_, fun L us W' hLk hI hd hcl A' hf => ?_, fun L us W' hLk hI hd hcl A' hf => ?_, fun L us W' hLk hI hd hcl A' hf => ?_, fun L us W' hLk hI hd hcl A' hf => ?_, fun L us W' hLk hI hd hcl A' hf => ?_, fun L us W' hLk hI hd hcl A' hf => ?_, fun L us W' hLk hI hd hcl A' hf => ?_, trivial⟩
        case refine_1 => as_aux_lemma => (have e1 : A'.tmps.getD 6 undef = .slice (some ⟨g, 0, none⟩) 3 c := hf 6; clear hf hd hcl; go_simp; exact ⟨_, rfl, on2.pure (k := 0) (by decide) rfl hI⟩)
        case refine_2 => as_aux_lemma => (have h1 : us 0 = .slice (some ⟨g, 0, none⟩) 3 c := hI.2.2.2 0 (hd 0 (by kernel_rfl)) (by decide); have e1 : A'.tmps.getD 21 undef = .slice (some ⟨g, 0, none⟩) 3 c := (hf 21).trans h1; clear hf hd hcl h1; go_simp; exact ⟨_, rfl, on2.pure (k := 1) (by decide) rfl hI⟩)
        case refine_3 => as_aux_lemma => (have h1 : us 1 = .pointer (some ⟨g, 0, none⟩) := hI.2.2.2 1 (hd 1 (by kernel_rfl)) (by decide); have e1 : A'.tmps.getD 22 undef = .pointer (some ⟨g, 0, none⟩) := (hf 22).trans h1; have y0 := (cell_heap hI.1 0).trans (C0.out); clear hf hd hcl h1; go_simp; exact ⟨_, rfl, on2.pure (k := 2) (by decide) rfl hI⟩)
        case refine_4 => as_aux_lemma => (have e1 : A'.tmps.getD 6 undef = .slice (some ⟨g, 0, none⟩) 3 c := hf 6; clear hf hd hcl; go_simp; exact ⟨_, rfl, on2.pure (k := 3) (by decide) rfl hI⟩)
        case refine_5 => as_aux_lemma => (have h1 : us 3 = .slice (some ⟨g, 0, none⟩) 3 c := hI.2.2.2 3 (hd 3 (by kernel_rfl)) (by decide); have e1 : A'.tmps.getD 24 undef = .slice (some ⟨g, 0, none⟩) 3 c := (hf 24).trans h1; clear hf hd hcl h1; go_simp; exact ⟨_, rfl, on2.pure (k := 4) (by decide) rfl hI⟩)
        case refine_6 => as_aux_lemma => (have h1 : us 4 = .pointer (some ⟨g, 1, none⟩) := hI.2.2.2 4 (hd 4 (by kernel_rfl)) (by decide); have e1 : A'.tmps.getD 25 undef = .pointer (some ⟨g, 1, none⟩) := (hf 25).trans h1; have y0 := (cell_heap hI.1 1).trans (C1.out); clear hf hd hcl h1; go_simp; exact ⟨_, rfl, on2.pure (k := 5) (by decide) rfl hI⟩)
        case refine_7 => as_aux_lemma => (have e1 : A'.tmps.getD 6 undef = .slice (some ⟨g, 0, none⟩) 3 c := hf 6; clear hf hd hcl; go_simp; exact ⟨_, rfl, on2.pure (k := 6) (by decide) rfl hI⟩)
        case refine_8 => as_aux_lemma => (have h1 : us 6 = .slice (some ⟨g, 0, none⟩) 3 c := hI.2.2.2 6 (hd 6 (by kernel_rfl)) (by decide); have e1 : A'.tmps.getD 27 undef = .slice (some ⟨g, 0, none⟩) 3 c := (hf 27).trans h1; clear hf hd hcl h1; go_simp; exact ⟨_, rfl, on2.pure (k := 7) (by decide) rfl hI⟩)
        case refine_9 => as_aux_lemma => (have h1 : us 7 = .pointer (some ⟨g, 2, none⟩) := hI.2.2.2 7 (hd 7 (by kernel_rfl)) (by decide); have e1 : A'.tmps.getD 28 undef = .pointer (some ⟨g, 2, none⟩) := (hf 28).trans h1; have y0 := (cell_heap hI.1 2).trans (C2.out); clear hf hd hcl h1; go_simp; exact ⟨_, rfl, on2.pure (k := 8) (by decide) rfl hI⟩)
        case refine_10 => as_aux_lemma =>
          have h1 : us 2 = .int .u64 m0 := hI.2.2.2 2 (hd 2 (by kernel_rfl)) (by decide)
          have h2 : us 5 = .int .u64 m1 := hI.2.2.2 5 (hd 5 (by kernel_rfl)) (by decide)
          have h3' : us 8 = .int .u64 m2 := hI.2.2.2 8 (hd 8 (by kernel_rfl)) (by decide)
          have e1 : A'.tmps.getD 23 undef = .int .u64 m0 := (hf 23).trans h1
          have e2 : A'.tmps.getD 26 undef = .int .u64 m1 := (hf 26).trans h2
          have e3 : A'.tmps.getD 29 undef = .int .u64 m2 := (hf 29).trans h3'
          clear hf hd hcl h1 h2 h3' HP HQ HR0 HX HY CX C0 C1 C2 HRW
          unfold Oper.wp
          simp only [execOp, Act.eval, List.map_toArray, List.map_cons, List.map_nil]
          rw [e1, e2, e3]
          clear e1 e2 e3
          go_simp
          exact ⟨_, rfl, on2.pure (k := 9) (by decide) rfl hI⟩
        case refine_11 => as_aux_lemma =>
          have e1 : A'.tmps.getD 7 undef = .bool v := hf 7
          clear hf hd hcl
          go_simp
          exact ⟨_, rfl, on2.pure (k := 10) (by decide) rfl hI⟩
        case refine_12 => as_aux_lemma =>
          have h1 : us 9 = .agg #[.int .u64 m0, .int .u64 m1, .int .u64 m2] := hI.2.2.2 9 (hd 9 (by kernel_rfl)) (by decide)
          have e1 : A'.tmps.getD 30 undef = .agg #[.int .u64 m0, .int .u64 m1, .int .u64 m2] := (hf 30).trans h1
          have e2 : A'.tmps.getD 4 undef = .pointer (some ⟨w.heap.size + 1 + 1, 0, none⟩) := hf 4
          have hBr := hI.2.1
          rw [hLk] at hBr
          have hBr' : Blk W' (w.heap.size + 1 + 1) #[.int .u64 0, .int .u64 0, .int .u64 0] 25 := hBr
          have r0 := hBr'.cell 0 _ rfl
          have r1 := hBr'.cell 1 _ rfl
          have r2 := hBr'.cell 2 _ rfl
          have rf := hBr'.frozen
          clear hf hd hcl h1 hBr hBr'
          go_simp
          exact ⟨undef, on2.store hLk hgr (by omega) hI⟩
        case refine_13 => as_aux_lemma =>
          have h1 : us 10 = .bool v := hI.2.2.2 10 (hd 10 (by kernel_rfl)) (by decide)
          have e1 : A'.tmps.getD 31 undef = .bool v := (hf 31).trans h1
          clear hf hd hcl h1
          go_simp
          exact ⟨_, rfl, on2.pure (k := 12) (by decide) rfl hI⟩
      case en2 =>
        intro L us W' hL hI
        as_aux_lemma =>
          have h12 : us 12 = .bool v := hI.2.2.2 12 (hL 12 (by omega)) (by decide)
          have hBr := hI.2.1
          rw [hL 11 (by omega)] at hBr
          have hBr' : Blk W' (w.heap.size + 1 + 1) #[.int .u64 m0, .int .u64 m1, .int .u64 m2] 25 := hBr
          have hbZ := hI.2.2.1
          simp only [List.take_succ_cons, List.take_zero, List.drop_succ_cons, List.drop_zero, Fct.fin, h12, Act.put, List.setIfInBounds_toArray, List.set_cons_zero, List.set_cons_succ]
          clear hI hL h12 hBr
          have z0 := hBr'.cell 0 _ rfl
          have z1 := hBr'.cell 1 _ rfl
          have z2 := hBr'.cell 2 _ rfl
          go_wp2_with fail
          refine bodyPost_ret (v := .tuple #[.agg #[.int .u64 m0, .int .u64 m1, .int .u64 m2], .bool v]) (by simp [results, Tryz.results34, go_sem, z0, z1, z2]) rfl ⟨by rw [HV.out, HM.out], hbZ⟩
end Go.Proofs.YtiiegpklpmogmaaGreatDoor
