/- The document's own answer for chapter 2: path, Then. -/
import Derived.Test.YtiiegpklpmogmaaGreatDoorR2B
set_option linter.unusedVariables false
set_option linter.unusedSimpArgs false
namespace Go.Proofs.YtiiegpklpmogmaaGreatDoor
open Go.RowKit

def rp (g c : Nat) (a0 a1 a2 : Int) (j : Nat) (v : Value) (W : World) : Prop :=
  match j with
  | 0 => v = .slice (some ⟨g, 0, none⟩) 3 c
  | 1 => v = .pointer (some ⟨g, 0, none⟩)
  | 2 => v = .int .u64 a0
  | 3 => v = .slice (some ⟨g, 0, none⟩) 3 c
  | 4 => v = .pointer (some ⟨g, 1, none⟩)
  | 5 => v = .int .u64 a1
  | 6 => v = .slice (some ⟨g, 0, none⟩) 3 c
  | 7 => v = .pointer (some ⟨g, 2, none⟩)
  | 8 => v = .int .u64 a2
  | _ => v = .agg #[.int .u64 a0, .int .u64 a1, .int .u64 a2]
theorem rp_stands {g c : Nat} {a0 a1 a2 : Int} {j : Nat} {v : Value} {W W' : World} (h : rp g c a0 a1 a2 j v W) (hb : Below W.heap.size W W') : rp g c a0 a1 a2 j v W' := by
  match j with
  | 0 | 1 | 2 | 3 | 4 | 5 | 6 | 7 | 8 => exact h
  | (j + 9) => exact h
set_option maxHeartbeats 4000000 in
set_option maxRecDepth 60000 in
theorem r2path_u3 (g c : Nat) (a0 a1 a2 : Int) (w : World) (hc3 : 3 ≤ c) (hcm : c ≤ 9223372036854775807) (c0 : w.cell? ⟨g, 0, none⟩ = some (.int .u64 a0)) (c1 : w.cell? ⟨g, 1, none⟩ = some (.int .u64 a1)) (c2 : w.cell? ⟨g, 2, none⟩ = some (.int .u64 a2)) (hg : g < w.heap.size) :
    Calls Tryz.prog 74 #[.slice (some ⟨g, 0, none⟩) 3 c] w fun e w' => e = .returned (.agg #[.int .u64 a0, .int .u64 a1, .int .u64 a2]) ∧ Below w.heap.size w w' := by
  have C0 := Lib.hid c0
  have C1 := Lib.hid c1
  have C2 := Lib.hid c2
  clear c0 c1 c2
  go_enter Tryz.func74, Tryz.ntmps74
  go_upto_region 1 with fail
  have hr0 := Blk.new w #[.int .u64 0, .int .u64 0, .int .u64 0] 40
  have hb0 : Below w.heap.size w (w.alloc (.cells #[.int .u64 0, .int .u64 0, .int .u64 0] 40)) := by (repeat first | exact Below.refl _ _ | assumption | refine Bel.alloc' ?_ _ | refine Bel.drewN ?_ _ | refine Below.drew ?_ | refine Bel.step' ?_ (by assumption))
  have D0 := Lib.hid ((hb0.cell (p := ⟨g, 0, none⟩) hg).trans C0.out)
  have D1 := Lib.hid ((hb0.cell (p := ⟨g, 1, none⟩) hg).trans C1.out)
  have D2 := Lib.hid ((hb0.cell (p := ⟨g, 2, none⟩) hg).trans C2.out)
  have HR0 := Lib.hid hr0
  have hgw : g < (w.alloc (.cells #[.int .u64 0, .int .u64 0, .int .u64 0] 40)).heap.size := Nat.lt_of_lt_of_le hg hb0.size
  clear hr0 C0 C1 C2
  generalize w.alloc (.cells #[.int .u64 0, .int .u64 0, .int .u64 0] 40) = wz at *
  refine wp_region_facts2 10 (rp g c a0 a1 a2) (fun _ _ _ => False) (by kernel_rfl) (by kernel_rfl) (fun j v W W' h hb => rp_stands h hb) ?op ?en
  case op =>
    simp only [List.take_succ_cons, List.take_zero, Fct.obl]
    refine ⟨fun us W hW hR A' hf => ?_, fun us W hW hR A' hf => ?_, fun us W hW hR A' hf => ?_, fun us W hW hR A' hf => ?_, fun us W hW hR A' hf => ?_, fun us W hW hR A' hf => ?_, fun us W hW hR A' hf => ?_, fun us W hW hR A' hf => ?_, fun us W hW hR A' hf => ?_, fun us W hW hR A' hf => ?_, trivial⟩
    case refine_1 => as_aux_lemma => (have e1 : A'.tmps.getD 0 undef = .slice (some ⟨g, 0, none⟩) 3 c := hf 0; clear hf hR; unfold Fct.opVal; go_simp; exact ⟨_, rfl, Below.refl _ _, rfl⟩)
    case refine_2 => as_aux_lemma => (have h1 : us 0 = .slice (some ⟨g, 0, none⟩) 3 c := hR 0 (by kernel_rfl); have e1 : A'.tmps.getD 3 undef = .slice (some ⟨g, 0, none⟩) 3 c := (hf 3).trans h1; clear hf hR h1; unfold Fct.opVal; go_simp; exact ⟨_, rfl, Below.refl _ _, rfl⟩)
    case refine_3 => as_aux_lemma => (have h1 : us 1 = .pointer (some ⟨g, 0, none⟩) := hR 1 (by kernel_rfl); have e1 : A'.tmps.getD 4 undef = .pointer (some ⟨g, 0, none⟩) := (hf 4).trans h1; have y0 := (hW.cell (p := ⟨g, 0, none⟩) hgw).trans D0.out; clear hf hR h1; unfold Fct.opVal; go_simp; exact ⟨_, rfl, Below.refl _ _, rfl⟩)
    case refine_4 => as_aux_lemma => (have e1 : A'.tmps.getD 0 undef = .slice (some ⟨g, 0, none⟩) 3 c := hf 0; clear hf hR; unfold Fct.opVal; go_simp; exact ⟨_, rfl, Below.refl _ _, rfl⟩)
    case refine_5 => as_aux_lemma => (have h1 : us 3 = .slice (some ⟨g, 0, none⟩) 3 c := hR 3 (by kernel_rfl); have e1 : A'.tmps.getD 6 undef = .slice (some ⟨g, 0, none⟩) 3 c := (hf 6).trans h1; clear hf hR h1; unfold Fct.opVal; go_simp; exact ⟨_, rfl, Below.refl _ _, rfl⟩)
    case refine_6 => as_aux_lemma => (have h1 : us 4 = .pointer (some ⟨g, 1, none⟩) := hR 4 (by kernel_rfl); have e1 : A'.tmps.getD 7 undef = .pointer (some ⟨g, 1, none⟩) := (hf 7).trans h1; have y0 := (hW.cell (p := ⟨g, 1, none⟩) hgw).trans D1.out; clear hf hR h1; unfold Fct.opVal; go_simp; exact ⟨_, rfl, Below.refl _ _, rfl⟩)
    case refine_7 => as_aux_lemma => (have e1 : A'.tmps.getD 0 undef = .slice (some ⟨g, 0, none⟩) 3 c := hf 0; clear hf hR; unfold Fct.opVal; go_simp; exact ⟨_, rfl, Below.refl _ _, rfl⟩)
    case refine_8 => as_aux_lemma => (have h1 : us 6 = .slice (some ⟨g, 0, none⟩) 3 c := hR 6 (by kernel_rfl); have e1 : A'.tmps.getD 9 undef = .slice (some ⟨g, 0, none⟩) 3 c := (hf 9).trans h1; clear hf hR h1; unfold Fct.opVal; go_simp; exact ⟨_, rfl, Below.refl _ _, rfl⟩)
    case refine_9 => as_aux_lemma => (have h1 : us 7 = .pointer (some ⟨g, 2, none⟩) := hR 7 (by kernel_rfl); have e1 : A'.tmps.getD 10 undef = .pointer (some ⟨g, 2, none⟩) := (hf 10).trans h1; have y0 := (hW.cell (p := ⟨g, 2, none⟩) hgw).trans D2.out; clear hf hR h1; unfold Fct.opVal; go_simp; exact ⟨_, rfl, Below.refl _ _, rfl⟩)
    case refine_10 => as_aux_lemma => (have h1 : us 2 = .int .u64 a0 := hR 2 (by kernel_rfl); have h2 : us 5 = .int .u64 a1 := hR 5 (by kernel_rfl); have h3 : us 8 = .int .u64 a2 := hR 8 (by kernel_rfl); have e1 : A'.tmps.getD 5 undef = .int .u64 a0 := (hf 5).trans h1; have e2 : A'.tmps.getD 8 undef = .int .u64 a1 := (hf 8).trans h2; have e3 : A'.tmps.getD 11 undef = .int .u64 a2 := (hf 11).trans h3; clear hf hR h1 h2 h3; unfold Fct.opVal Oper.wp; simp only [execOp, Act.eval, List.map_toArray, List.map_cons, List.map_nil]; rw [e1, e2, e3]; clear e1 e2 e3; go_simp; exact ⟨_, rfl, Below.refl _ _, rfl⟩)
  case en =>
    intro us W hW hR _
    as_aux_lemma =>
      have k9 : us 9 = .agg #[.int .u64 a0, .int .u64 a1, .int .u64 a2] := hR 9 (by omega)
      clear hR
      simp only [List.take_succ_cons, List.take_zero, List.drop_succ_cons, List.drop_zero, Fct.fin, k9, Act.put, List.setIfInBounds_toArray, List.set_cons_zero, List.set_cons_succ]
      clear k9
      have hrW := HR0.out.later hW
      have p0 := hrW.cell 0 _ rfl
      have p1 := hrW.cell 1 _ rfl
      have p2 := hrW.cell 2 _ rfl
      have pf := hrW.frozen
      go_wp2
      obtain ⟨HR, hbZ⟩ := res3 (x := .int .u64 a0) (y := .int .u64 a1) (z := .int .u64 a2) HR0.out hW hb0 (Nat.le_refl _)
      clear p0 p1 p2 pf hrW
      generalize (((W.setCell ⟨w.heap.size, 0, none⟩ (.int .u64 a0)).setCell ⟨w.heap.size, 1, none⟩ (.int .u64 a1)).setCell ⟨w.heap.size, 2, none⟩ (.int .u64 a2)) = Z at HR hbZ ⊢
      have z0 := HR.cell 0 _ rfl
      have z1 := HR.cell 1 _ rfl
      have z2 := HR.cell 2 _ rfl
      refine bodyPost_ret (v := .agg #[.int .u64 a0, .int .u64 a1, .int .u64 a2]) (by simp [results, Tryz.results74, go_sem, z0, z1, z2]) rfl ⟨rfl, hbZ⟩
end Go.Proofs.YtiiegpklpmogmaaGreatDoor
