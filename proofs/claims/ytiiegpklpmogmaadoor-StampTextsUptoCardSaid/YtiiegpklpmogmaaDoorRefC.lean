/- The document's own answer for chapter 1: Parse. -/
import Derived.Test.YtiiegpklpmogmaaDoorRefB
import Derived.Test.YtiiegpklpmogmaaDoorStPlain8
import Derived.Deep.DeepCutAuto
set_option linter.unusedVariables false
set_option linter.unusedSimpArgs false
namespace Go.Proofs.YtiiegpklpmogmaaDoor
open Go.RowKit

theorem wrap_mod (x : Int) : IntKind.u64.wrap x = u64Mod x := rfl
theorem wrap_u8 {x : Int} (h : 0 ≤ x) (h' : x < 256) : IntKind.u8.wrap x = x := by
  have : IntKind.u8.wrap x = x % 256 := rfl
  omega

set_option maxHeartbeats 2000000 in
theorem refparse_arity (s : ByteArray) (n : Int) (w : World) (h : n < 1 ∨ n > 3) :
    Calls Tryd.prog 10 #[.string s, .int .i64 n] w fun e w' => e = .returned (.tuple #[tmV tm0, .int .i64 10]) ∧ Below w.heap.size w w' := by
  by_cases h1 : n < 1
  · have t1 : decide (n < 1) = true := decide_eq_true h1
    clear h
    go_enter Tryd.func10, Tryd.ntmps10
    go_wp2
    have HR := Blk.new w #[.int .u64 0, .int .u64 0, .int .u64 0] 24
    have z0 := HR.cell 0 _ rfl
    have z1 := HR.cell 1 _ rfl
    have z2 := HR.cell 2 _ rfl
    refine bodyPost_ret (v := .tuple #[.agg #[.int .u64 0, .int .u64 0, .int .u64 0], .int .i64 10]) (by simp [results, Tryd.results10, go_sem, z0, z1, z2]) rfl ⟨rfl, by (repeat first | exact Below.refl _ _ | assumption | refine Bel.alloc' ?_ _ | refine Bel.drewN ?_ _ | refine Below.drew ?_ | refine Bel.step' ?_ (by assumption))⟩
  · have t1 : decide (n < 1) = false := decide_eq_false h1
    have t2 : decide (3 < n) = true := decide_eq_true (by omega)
    clear h h1
    go_enter Tryd.func10, Tryd.ntmps10
    go_wp2
    have HR := Blk.new w #[.int .u64 0, .int .u64 0, .int .u64 0] 24
    have z0 := HR.cell 0 _ rfl
    have z1 := HR.cell 1 _ rfl
    have z2 := HR.cell 2 _ rfl
    refine bodyPost_ret (v := .tuple #[.agg #[.int .u64 0, .int .u64 0, .int .u64 0], .int .i64 10]) (by simp [results, Tryd.results10, go_sem, z0, z1, z2]) rfl ⟨rfl, by (repeat first | exact Below.refl _ _ | assumption | refine Bel.alloc' ?_ _ | refine Bel.drewN ?_ _ | refine Below.drew ?_ | refine Bel.step' ?_ (by assumption))⟩

set_option maxHeartbeats 16000000 in
set_option maxRecDepth 8000 in
theorem refparse_in (s : ByteArray) (n : Nat) (w : World) (hs : s.size < 4294967281) (h1 : 1 ≤ n) (h3 : n ≤ 3) :
    Calls Tryd.prog 10 #[.string s, .int .i64 n] w fun e w' => e = .returned (.tuple #[tmV (rparseV s.data.toList n).1, .int .i64 (rparseV s.data.toList n).2]) ∧ Below w.heap.size w w' := by
  have t1 : decide ((n : Int) < 1) = false := decide_eq_false (by omega)
  have t2 : decide ((3 : Int) < n) = false := decide_eq_false (by omega)
  have hlen : s.data.toList.length = s.size := Array.length_toList
  have hmk : ∀ W : World, (Instr.makeSlice 49 (.int .i64 3) (.int .i64 3)).run Tryd.prog W = .ok (.slice (some ⟨W.heap.size, 0, none⟩) 3 3) (W.alloc (.cells #[.int .u64 0, .int .u64 0, .int .u64 0] 22)) := fun _ => by kernel_rfl
  go_enter Tryd.func10, Tryd.ntmps10
  go_wp2
  have hR0 := (Blk.new w #[.int .u64 0, .int .u64 0, .int .u64 0] 24).alloc (.cells #[.int .u64 0, .int .u64 0, .int .u64 0] 22)
  have hX0 := Blk.new' (w := w.alloc (.cells #[.int .u64 0, .int .u64 0, .int .u64 0] 24)) (k := w.heap.size + 1) (cs := #[.int .u64 0, .int .u64 0, .int .u64 0]) (t := 22) (by simp)
  have hW0 : Below w.heap.size w ((w.alloc (.cells #[.int .u64 0, .int .u64 0, .int .u64 0] 24)).alloc (.cells #[.int .u64 0, .int .u64 0, .int .u64 0] 22)) := by (repeat first | exact Below.refl _ _ | assumption | refine Bel.alloc' ?_ _ | refine Bel.drewN ?_ _ | refine Below.drew ?_ | refine Bel.step' ?_ (by assumption))
  go_loopw [7, 8] (fun v7 v8 wr => ∃ (i k : Nat) (x0 x1 x2 : Int), i ≤ s.size ∧ k ≤ 2 ∧ v8 = .int .i64 i ∧ v7 = .int .i64 k ∧ Hid (rfold (0, tm0) (s.data.toList.take i) = some (k, ⟨x0, x1, x2⟩)) ∧ Hid (Blk wr (w.heap.size + 1) #[.int .u64 x0, .int .u64 x1, .int .u64 x2] 22) ∧ Hid (Blk wr w.heap.size #[.int .u64 0, .int .u64 0, .int .u64 0] 24) ∧ Below w.heap.size w wr) (fun _ v8 _ => s.size - (intOf v8).toNat)
  case atStart => exact ⟨0, 0, 0, 0, 0, by omega, by omega, rfl, rfl, Lib.hid rfl, Lib.hid hX0, Lib.hid hR0, hW0⟩
  case round =>
    obtain ⟨i, k, x0, x1, x2, hi, hk, rfl, rfl, HF, HX, HR, hbr⟩ := hrel
    clear hR0 hX0 hW0
    have i0 : 0 ≤ (i : Int) := by omega
    by_cases hlt : i < s.size
    · have il : (i : Int) < s.size := by omega
      have hci : s.data.toList[i]? = some s[i] := by
        rw [List.getElem?_eq_getElem (by omega)]; rfl
      have hst := rfold_snoc HF.out hci
      by_cases c46 : s[i] = 46
      · have z46 : ((s[i].toNat : Nat) : Int) = 46 := by rw [c46]; rfl
        by_cases k2 : k < 2
        · have k2' : (k : Int) < 2 := by omega
          rw [c46, rstep_point k _ k2] at hst
          have HS := Lib.hid hst
          clear hst c46 hci
          go_wp2
          exact ⟨⟨i + 1, k + 1, x0, x1, x2, by omega, by omega, rfl, rfl, HS, HX, HR, hbr⟩, by simp [intOf]; omega⟩
        · have k2' : ¬ (k : Int) < 2 := by omega
          have hno : rstep (k, ⟨x0, x1, x2⟩) s[i] = none := by
            unfold rstep; rw [if_neg (fun h => k2 h.2), if_neg (by rw [c46]; decide)]
          rw [hno] at hst
          have HS := Lib.hid (rfold_none hst)
          have r0 := HR.out.cell 0 _ rfl
          have r1 := HR.out.cell 1 _ rfl
          have r2 := HR.out.cell 2 _ rfl
          have rf := HR.out.frozen
          clear hst c46 hci hno
          go_wp2
          (have hz : rparseV s.data.toList n = (tm0, 11) := (by unfold rparseV; rw [if_neg (by omega), HS.out]); rw [hz]; obtain ⟨HRz, hbZ⟩ := res_row (x := .int .u64 0) (y := .int .u64 0) (z := .int .u64 0) HR.out (Below.refl _ _) hbr (Nat.le_refl _); clear r0 r1 r2 rf; generalize (((wr.setCell ⟨w.heap.size, 0, none⟩ (.int .u64 0)).setCell ⟨w.heap.size, 1, none⟩ (.int .u64 0)).setCell ⟨w.heap.size, 2, none⟩ (.int .u64 0)) = Z at HRz hbZ ⊢; have z0 := HRz.cell 0 _ rfl; have z1 := HRz.cell 1 _ rfl; have z2 := HRz.cell 2 _ rfl; refine bodyPost_ret (v := .tuple #[.agg #[.int .u64 0, .int .u64 0, .int .u64 0], .int .i64 11]) (by simp [results, Tryd.results10, go_sem, z0, z1, z2]) rfl ⟨rfl, hbZ⟩)
      · by_cases cd : isDig s[i]
        · have d1 : decide ((48 : Int) ≤ s[i].toNat) = true := decide_eq_true (by unfold isDig at cd; omega)
          have d2 : decide ((s[i].toNat : Int) ≤ 57) = true := decide_eq_true (by unfold isDig at cd; omega)
          have b1 : (48 : Int) ≤ s[i].toNat := by unfold isDig at cd; omega
          have b2 : (s[i].toNat : Int) ≤ 57 := by unfold isDig at cd; omega
          have z46 : ¬ ((s[i].toNat : Nat) : Int) = 46 := by omega
          have hsd : rstep (k, ⟨x0, x1, x2⟩) s[i] = some (k, rdig k ⟨x0, x1, x2⟩ (s[i].toNat - 48)) := by
            unfold rstep; rw [if_neg (fun h => c46 h.1), if_pos cd]
          rw [hsd] at hst
          have HS := Lib.hid hst
          clear hst c46 hci hsd cd
          go_upto_region 12 with fail
          rcases (show k = 0 ∨ k = 1 ∨ k = 2 by omega) with rfl | rfl | rfl
          · refine wp_region_facts 13 (fun j v W => match j with
              | 0 => v = .slice (some ⟨w.heap.size + 1, 0, none⟩) 3 3
              | 1 => v = .int .i64 0
              | 2 => v = .slice (some ⟨w.heap.size + 1, 0, none⟩) 3 3
              | 3 => v = .int .i64 0
              | 4 => v = .pointer (some ⟨w.heap.size + 1, 0, none⟩)
              | 5 => v = .int .u64 x0
              | 6 => v = .int .u64 (u64Mod (10 * x0))
              | 7 => v = .string s
              | 8 => v = .int .i64 i
              | 9 => v = .int .u8 (s[i].toNat : Int)
              | 10 => v = .int .u8 ((s[i].toNat : Int) - 48)
              | 11 => v = .int .u64 ((s[i].toNat : Int) - 48)
              | _ => v = .int .u64 (u64Mod (u64Mod (10 * x0) + ((s[i].toNat : Int) - 48))))
              (fun _ _ _ => False) (by kernel_rfl) (by kernel_rfl) (by intro j v W W' h hb; exact h) ?_
            simp only [List.take_succ_cons, List.take_zero, List.drop_succ_cons, List.drop_zero, Fct.walk]
            refine ⟨fun W hW hR => by (unfold Fct.opFct; go_simp; exact Below.refl _ _), fun v0 => ⟨fun W hW hR => by (unfold Fct.opFct; go_simp; exact Below.refl _ _), fun v1 => ⟨fun W hW hR => by (unfold Fct.opFct; go_simp; exact Below.refl _ _), fun v2 => ⟨fun W hW hR => by (unfold Fct.opFct; go_simp; exact Below.refl _ _), fun v3 => ⟨fun W hW hR => by (unfold Fct.opFct; have hk := hR 2 (by kernel_rfl); have hl := hR 3 (by kernel_rfl); simp at hk hl; subst hk; subst hl; go_simp; exact Below.refl _ _), fun v4 => ⟨fun W hW hR => by (unfold Fct.opFct; have hk := hR 4 (by kernel_rfl); simp at hk; subst hk; have hcell := (Blk.later HX.out hW).cell 0 _ rfl; go_simp; exact Below.refl _ _), fun v5 => ⟨fun W hW hR => ?m6, fun v6 => ⟨fun W hW hR => by (unfold Fct.opFct; go_simp; exact Below.refl _ _), fun v7 => ⟨fun W hW hR => by (unfold Fct.opFct; go_simp; exact Below.refl _ _), fun v8 => ⟨fun W hW hR => by (unfold Fct.opFct; have hk := hR 7 (by kernel_rfl); have hl := hR 8 (by kernel_rfl); simp at hk hl; subst hk; subst hl; go_simp; exact Below.refl _ _), fun v9 => ⟨fun W hW hR => ?m10, fun v10 => ⟨fun W hW hR => ?m11, fun v11 => ⟨fun W hW hR => ?m12, fun v12 W hW hR hO => ?tl⟩⟩⟩⟩⟩⟩⟩⟩⟩⟩⟩⟩⟩
            case m6 =>
              unfold Fct.opFct; have hk := hR 5 (by kernel_rfl); simp at hk; subst hk; go_simp
              exact ⟨wrap_mod _, Below.refl _ _⟩
            case m10 =>
              unfold Fct.opFct; have hk := hR 9 (by kernel_rfl); simp at hk; subst hk; go_simp
              exact ⟨wrap_u8 (by omega) (by omega), Below.refl _ _⟩
            case m11 =>
              unfold Fct.opFct; have hk := hR 10 (by kernel_rfl); simp at hk; subst hk; go_simp
              exact ⟨(wrap_mod _).trans (by unfold u64Mod; omega), Below.refl _ _⟩
            case m12 =>
              unfold Fct.opFct; have hk := hR 6 (by kernel_rfl); have hl := hR 11 (by kernel_rfl); simp at hk hl; subst hk; subst hl; go_simp
              exact ⟨wrap_mod _, Below.refl _ _⟩
            case tl =>
              have k0 := hR 0 (by omega); have k1 := hR 1 (by omega); have k12 := hR 12 (by omega)
              simp at k0 k1 k12
              subst k0; subst k1; subst k12
              clear hR hO
              simp only [Act.put, List.setIfInBounds_toArray, List.set_cons_zero, List.set_cons_succ]
              have hXW := HX.out.later hW
              have pc := hXW.cell 0 _ rfl
              have pf := hXW.frozen 0
              go_wp2
              exact ⟨⟨i + 1, 0, (u64Mod (u64Mod (10 * x0) + ((s[i].toNat : Int) - 48))), x1, x2, by omega, by omega, rfl, rfl, HS, Lib.hid (hXW.set 0 _), Lib.hid ((HR.out.later hW).setOther _ _ (by show w.heap.size ≠ w.heap.size + 1; omega)), (Bel.step' hbr hW).setCell (by show w.heap.size ≤ w.heap.size + 1; omega) _⟩, by simp [intOf]; omega⟩
          · refine wp_region_facts 13 (fun j v W => match j with
              | 0 => v = .slice (some ⟨w.heap.size + 1, 0, none⟩) 3 3
              | 1 => v = .int .i64 1
              | 2 => v = .slice (some ⟨w.heap.size + 1, 0, none⟩) 3 3
              | 3 => v = .int .i64 1
              | 4 => v = .pointer (some ⟨w.heap.size + 1, 1, none⟩)
              | 5 => v = .int .u64 x1
              | 6 => v = .int .u64 (u64Mod (10 * x1))
              | 7 => v = .string s
              | 8 => v = .int .i64 i
              | 9 => v = .int .u8 (s[i].toNat : Int)
              | 10 => v = .int .u8 ((s[i].toNat : Int) - 48)
              | 11 => v = .int .u64 ((s[i].toNat : Int) - 48)
              | _ => v = .int .u64 (u64Mod (u64Mod (10 * x1) + ((s[i].toNat : Int) - 48))))
              (fun _ _ _ => False) (by kernel_rfl) (by kernel_rfl) (by intro j v W W' h hb; exact h) ?_
            simp only [List.take_succ_cons, List.take_zero, List.drop_succ_cons, List.drop_zero, Fct.walk]
            refine ⟨fun W hW hR => by (unfold Fct.opFct; go_simp; exact Below.refl _ _), fun v0 => ⟨fun W hW hR => by (unfold Fct.opFct; go_simp; exact Below.refl _ _), fun v1 => ⟨fun W hW hR => by (unfold Fct.opFct; go_simp; exact Below.refl _ _), fun v2 => ⟨fun W hW hR => by (unfold Fct.opFct; go_simp; exact Below.refl _ _), fun v3 => ⟨fun W hW hR => by (unfold Fct.opFct; have hk := hR 2 (by kernel_rfl); have hl := hR 3 (by kernel_rfl); simp at hk hl; subst hk; subst hl; go_simp; exact Below.refl _ _), fun v4 => ⟨fun W hW hR => by (unfold Fct.opFct; have hk := hR 4 (by kernel_rfl); simp at hk; subst hk; have hcell := (Blk.later HX.out hW).cell 1 _ rfl; go_simp; exact Below.refl _ _), fun v5 => ⟨fun W hW hR => ?m6, fun v6 => ⟨fun W hW hR => by (unfold Fct.opFct; go_simp; exact Below.refl _ _), fun v7 => ⟨fun W hW hR => by (unfold Fct.opFct; go_simp; exact Below.refl _ _), fun v8 => ⟨fun W hW hR => by (unfold Fct.opFct; have hk := hR 7 (by kernel_rfl); have hl := hR 8 (by kernel_rfl); simp at hk hl; subst hk; subst hl; go_simp; exact Below.refl _ _), fun v9 => ⟨fun W hW hR => ?m10, fun v10 => ⟨fun W hW hR => ?m11, fun v11 => ⟨fun W hW hR => ?m12, fun v12 W hW hR hO => ?tl⟩⟩⟩⟩⟩⟩⟩⟩⟩⟩⟩⟩⟩
            case m6 =>
              unfold Fct.opFct; have hk := hR 5 (by kernel_rfl); simp at hk; subst hk; go_simp
              exact ⟨wrap_mod _, Below.refl _ _⟩
            case m10 =>
              unfold Fct.opFct; have hk := hR 9 (by kernel_rfl); simp at hk; subst hk; go_simp
              exact ⟨wrap_u8 (by omega) (by omega), Below.refl _ _⟩
            case m11 =>
              unfold Fct.opFct; have hk := hR 10 (by kernel_rfl); simp at hk; subst hk; go_simp
              exact ⟨(wrap_mod _).trans (by unfold u64Mod; omega), Below.refl _ _⟩
            case m12 =>
              unfold Fct.opFct; have hk := hR 6 (by kernel_rfl); have hl := hR 11 (by kernel_rfl); simp at hk hl; subst hk; subst hl; go_simp
              exact ⟨wrap_mod _, Below.refl _ _⟩
            case tl =>
              have k0 := hR 0 (by omega); have k1 := hR 1 (by omega); have k12 := hR 12 (by omega)
              simp at k0 k1 k12
              subst k0; subst k1; subst k12
              clear hR hO
              simp only [Act.put, List.setIfInBounds_toArray, List.set_cons_zero, List.set_cons_succ]
              have hXW := HX.out.later hW
              have pc := hXW.cell 1 _ rfl
              have pf := hXW.frozen 1
              go_wp2
              exact ⟨⟨i + 1, 1, x0, (u64Mod (u64Mod (10 * x1) + ((s[i].toNat : Int) - 48))), x2, by omega, by omega, rfl, rfl, HS, Lib.hid (hXW.set 1 _), Lib.hid ((HR.out.later hW).setOther _ _ (by show w.heap.size ≠ w.heap.size + 1; omega)), (Bel.step' hbr hW).setCell (by show w.heap.size ≤ w.heap.size + 1; omega) _⟩, by simp [intOf]; omega⟩
          · refine wp_region_facts 13 (fun j v W => match j with
              | 0 => v = .slice (some ⟨w.heap.size + 1, 0, none⟩) 3 3
              | 1 => v = .int .i64 2
              | 2 => v = .slice (some ⟨w.heap.size + 1, 0, none⟩) 3 3
              | 3 => v = .int .i64 2
              | 4 => v = .pointer (some ⟨w.heap.size + 1, 2, none⟩)
              | 5 => v = .int .u64 x2
              | 6 => v = .int .u64 (u64Mod (10 * x2))
              | 7 => v = .string s
              | 8 => v = .int .i64 i
              | 9 => v = .int .u8 (s[i].toNat : Int)
              | 10 => v = .int .u8 ((s[i].toNat : Int) - 48)
              | 11 => v = .int .u64 ((s[i].toNat : Int) - 48)
              | _ => v = .int .u64 (u64Mod (u64Mod (10 * x2) + ((s[i].toNat : Int) - 48))))
              (fun _ _ _ => False) (by kernel_rfl) (by kernel_rfl) (by intro j v W W' h hb; exact h) ?_
            simp only [List.take_succ_cons, List.take_zero, List.drop_succ_cons, List.drop_zero, Fct.walk]
            refine ⟨fun W hW hR => by (unfold Fct.opFct; go_simp; exact Below.refl _ _), fun v0 => ⟨fun W hW hR => by (unfold Fct.opFct; go_simp; exact Below.refl _ _), fun v1 => ⟨fun W hW hR => by (unfold Fct.opFct; go_simp; exact Below.refl _ _), fun v2 => ⟨fun W hW hR => by (unfold Fct.opFct; go_simp; exact Below.refl _ _), fun v3 => ⟨fun W hW hR => by (unfold Fct.opFct; have hk := hR 2 (by kernel_rfl); have hl := hR 3 (by kernel_rfl); simp at hk hl; subst hk; subst hl; go_simp; exact Below.refl _ _), fun v4 => ⟨fun W hW hR => by (unfold Fct.opFct; have hk := hR 4 (by kernel_rfl); simp at hk; subst hk; have hcell := (Blk.later HX.out hW).cell 2 _ rfl; go_simp; exact Below.refl _ _), fun v5 => ⟨fun W hW hR => ?m6, fun v6 => ⟨fun W hW hR => by (unfold Fct.opFct; go_simp; exact Below.refl _ _), fun v7 => ⟨fun W hW hR => by (unfold Fct.opFct; go_simp; exact Below.refl _ _), fun v8 => ⟨fun W hW hR => by (unfold Fct.opFct; have hk := hR 7 (by kernel_rfl); have hl := hR 8 (by kernel_rfl); simp at hk hl; subst hk; subst hl; go_simp; exact Below.refl _ _), fun v9 => ⟨fun W hW hR => ?m10, fun v10 => ⟨fun W hW hR => ?m11, fun v11 => ⟨fun W hW hR => ?m12, fun v12 W hW hR hO => ?tl⟩⟩⟩⟩⟩⟩⟩⟩⟩⟩⟩⟩⟩
            case m6 =>
              unfold Fct.opFct; have hk := hR 5 (by kernel_rfl); simp at hk; subst hk; go_simp
              exact ⟨wrap_mod _, Below.refl _ _⟩
            case m10 =>
              unfold Fct.opFct; have hk := hR 9 (by kernel_rfl); simp at hk; subst hk; go_simp
              exact ⟨wrap_u8 (by omega) (by omega), Below.refl _ _⟩
            case m11 =>
              unfold Fct.opFct; have hk := hR 10 (by kernel_rfl); simp at hk; subst hk; go_simp
              exact ⟨(wrap_mod _).trans (by unfold u64Mod; omega), Below.refl _ _⟩
            case m12 =>
              unfold Fct.opFct; have hk := hR 6 (by kernel_rfl); have hl := hR 11 (by kernel_rfl); simp at hk hl; subst hk; subst hl; go_simp
              exact ⟨wrap_mod _, Below.refl _ _⟩
            case tl =>
              have k0 := hR 0 (by omega); have k1 := hR 1 (by omega); have k12 := hR 12 (by omega)
              simp at k0 k1 k12
              subst k0; subst k1; subst k12
              clear hR hO
              simp only [Act.put, List.setIfInBounds_toArray, List.set_cons_zero, List.set_cons_succ]
              have hXW := HX.out.later hW
              have pc := hXW.cell 2 _ rfl
              have pf := hXW.frozen 2
              go_wp2
              exact ⟨⟨i + 1, 2, x0, x1, (u64Mod (u64Mod (10 * x2) + ((s[i].toNat : Int) - 48))), by omega, by omega, rfl, rfl, HS, Lib.hid (hXW.set 2 _), Lib.hid ((HR.out.later hW).setOther _ _ (by show w.heap.size ≠ w.heap.size + 1; omega)), (Bel.step' hbr hW).setCell (by show w.heap.size ≤ w.heap.size + 1; omega) _⟩, by simp [intOf]; omega⟩
        · have hno : rstep (k, ⟨x0, x1, x2⟩) s[i] = none := by
            unfold rstep; rw [if_neg (fun h => c46 h.1), if_neg cd]
          rw [hno] at hst
          have HS := Lib.hid (rfold_none hst)
          have z46 : ¬ ((s[i].toNat : Nat) : Int) = 46 := fun h => c46 (UInt8.toNat_inj.1 (by rw [show (46 : UInt8).toNat = 46 from rfl]; omega))
          have r0 := HR.out.cell 0 _ rfl
          have r1 := HR.out.cell 1 _ rfl
          have r2 := HR.out.cell 2 _ rfl
          have rf := HR.out.frozen
          clear hst c46 hci hno
          by_cases c48 : 48 ≤ s[i].toNat
          · have z48 : (48 : Int) ≤ s[i].toNat := by omega
            have z57 : ¬ ((s[i].toNat : Nat) : Int) ≤ 57 := by unfold isDig at cd; omega
            clear cd c48
            go_wp2
            (have hz : rparseV s.data.toList n = (tm0, 11) := (by unfold rparseV; rw [if_neg (by omega), HS.out]); rw [hz]; obtain ⟨HRz, hbZ⟩ := res_row (x := .int .u64 0) (y := .int .u64 0) (z := .int .u64 0) HR.out (Below.refl _ _) hbr (Nat.le_refl _); clear r0 r1 r2 rf; generalize (((wr.setCell ⟨w.heap.size, 0, none⟩ (.int .u64 0)).setCell ⟨w.heap.size, 1, none⟩ (.int .u64 0)).setCell ⟨w.heap.size, 2, none⟩ (.int .u64 0)) = Z at HRz hbZ ⊢; have z0 := HRz.cell 0 _ rfl; have z1 := HRz.cell 1 _ rfl; have z2 := HRz.cell 2 _ rfl; refine bodyPost_ret (v := .tuple #[.agg #[.int .u64 0, .int .u64 0, .int .u64 0], .int .i64 11]) (by simp [results, Tryd.results10, go_sem, z0, z1, z2]) rfl ⟨rfl, hbZ⟩)
          · have z48 : ¬ (48 : Int) ≤ s[i].toNat := by omega
            clear cd c48
            go_wp2
            (have hz : rparseV s.data.toList n = (tm0, 11) := (by unfold rparseV; rw [if_neg (by omega), HS.out]); rw [hz]; obtain ⟨HRz, hbZ⟩ := res_row (x := .int .u64 0) (y := .int .u64 0) (z := .int .u64 0) HR.out (Below.refl _ _) hbr (Nat.le_refl _); clear r0 r1 r2 rf; generalize (((wr.setCell ⟨w.heap.size, 0, none⟩ (.int .u64 0)).setCell ⟨w.heap.size, 1, none⟩ (.int .u64 0)).setCell ⟨w.heap.size, 2, none⟩ (.int .u64 0)) = Z at HRz hbZ ⊢; have z0 := HRz.cell 0 _ rfl; have z1 := HRz.cell 1 _ rfl; have z2 := HRz.cell 2 _ rfl; refine bodyPost_ret (v := .tuple #[.agg #[.int .u64 0, .int .u64 0, .int .u64 0], .int .i64 11]) (by simp [results, Tryd.results10, go_sem, z0, z1, z2]) rfl ⟨rfl, hbZ⟩)
    · obtain rfl : i = s.size := by omega
      have il : ¬ (s.size : Int) < s.size := by omega
      have hf := HF.out
      rw [List.take_of_length_le (by omega)] at hf
      have hok : Tm.ok ⟨x0, x1, x2⟩ := rfold_ok _ _ _ (by unfold Tm.ok tm0; simp) hf
      have hv : rparseV s.data.toList n = if fitsV x0 x1 x2 n = 0 ∧ textV ⟨x0, x1, x2⟩ n = s.data.toList then (⟨x0, x1, x2⟩, 0) else (tm0, 11) := by
        unfold rparseV; rw [if_neg (by omega), hf]; rfl
      have RT := Lib.hid (reftime_at x0 x1 x2 _ wr HX.out)
      have HT : ∃ (l : List UInt8) (e : Int), Hid (∀ W, Calls Tryd.prog 8 #[.agg #[.int .u64 x0, .int .u64 x1, .int .u64 x2], .int .i64 n] W fun r w' => r = .returned (.tuple #[.string ⟨l.toArray⟩, .int .i64 e]) ∧ Below W.heap.size W w') ∧ (e = 0 ∧ l = textV ⟨x0, x1, x2⟩ n ∧ fitsV x0 x1 x2 n = 0 ∨ e ≠ 0 ∧ fitsV x0 x1 x2 n ≠ 0) := by
        by_cases h : fitsV x0 x1 x2 n = 0
        · exact ⟨_, 0, Lib.hid fun W => reftext_good ⟨x0, x1, x2⟩ n W hok h1 h3 h, .inl ⟨rfl, rfl, h⟩⟩
        · exact ⟨[], _, Lib.hid fun W => reftext_bad ⟨x0, x1, x2⟩ n W h, .inr ⟨h, h⟩⟩
      obtain ⟨l, e, HT, hle⟩ := HT
      clear hf
      have HV := Lib.hid hv
      have HRR := HR
      clear hv HF
      rcases hle with ⟨rfl, hl, h0⟩ | ⟨he, h0⟩
      · have HL := Lib.hid hl
        have H0 := Lib.hid h0
        clear hl h0
        cases hq : (l == s.toList) with
        | true =>
          have HQ := Lib.hid hq
          (go_upto_region 15 with (first | (go_at_call 29; refine RT.out.mono ?_; rintro r w5 ⟨rfl, hb5⟩) | (go_at_call 8; refine (HT.out _).mono ?_; rintro r w6 ⟨rfl, hb6⟩)); have hBx := (Blk.new w5 #[.int .u64 x0, .int .u64 x1, .int .u64 x2] 24).later hb6; have x0c := hBx.cell 0 _ rfl; have x1c := hBx.cell 1 _ rfl; have x2c := hBx.cell 2 _ rfl; have hR6 := ((HRR.out.later hb5).alloc (.cells #[.int .u64 x0, .int .u64 x1, .int .u64 x2] 24)).later hb6; have r0 := hR6.cell 0 _ rfl; have r1 := hR6.cell 1 _ rfl; have r2 := hR6.cell 2 _ rfl; have rf := hR6.frozen; have hbw6 : Below w.heap.size w w6 := Bel.step' ((Bel.step' hbr hb5).alloc (Bel.step' hbr hb5).size _) hb6; go_wp2)
          have hz : rparseV s.data.toList n = (⟨x0, x1, x2⟩, 0) := by
            rw [HV.out, if_pos ⟨H0.out, by rw [← HL.out, ← Lib.toList_data]; exact beq_iff_eq.1 HQ.out⟩]
          rw [hz]
          (obtain ⟨HRz, hbZ⟩ := res_row (x := .int .u64 x0) (y := .int .u64 x1) (z := .int .u64 x2) hR6 (Below.refl _ _) hbw6 (Nat.le_refl _); clear r0 r1 r2 rf; generalize (((w6.setCell ⟨w.heap.size, 0, none⟩ (.int .u64 x0)).setCell ⟨w.heap.size, 1, none⟩ (.int .u64 x1)).setCell ⟨w.heap.size, 2, none⟩ (.int .u64 x2)) = Z at HRz hbZ ⊢; have z0 := HRz.cell 0 _ rfl; have z1 := HRz.cell 1 _ rfl; have z2 := HRz.cell 2 _ rfl; refine bodyPost_ret (v := .tuple #[.agg #[.int .u64 x0, .int .u64 x1, .int .u64 x2], .int .i64 0]) (by simp [results, Tryd.results10, go_sem, z0, z1, z2]) rfl ⟨rfl, hbZ⟩)
        | false =>
          have HQ := Lib.hid hq
          (go_upto_region 15 with (first | (go_at_call 29; refine RT.out.mono ?_; rintro r w5 ⟨rfl, hb5⟩) | (go_at_call 8; refine (HT.out _).mono ?_; rintro r w6 ⟨rfl, hb6⟩)); have hBx := (Blk.new w5 #[.int .u64 x0, .int .u64 x1, .int .u64 x2] 24).later hb6; have x0c := hBx.cell 0 _ rfl; have x1c := hBx.cell 1 _ rfl; have x2c := hBx.cell 2 _ rfl; have hR6 := ((HRR.out.later hb5).alloc (.cells #[.int .u64 x0, .int .u64 x1, .int .u64 x2] 24)).later hb6; have r0 := hR6.cell 0 _ rfl; have r1 := hR6.cell 1 _ rfl; have r2 := hR6.cell 2 _ rfl; have rf := hR6.frozen; have hbw6 : Below w.heap.size w w6 := Bel.step' ((Bel.step' hbr hb5).alloc (Bel.step' hbr hb5).size _) hb6; go_wp2)
          have hz : rparseV s.data.toList n = (tm0, 11) := by
            rw [HV.out, if_neg]
            intro h
            rw [← HL.out] at h
            have := HQ.out
            rw [h.2, Lib.toList_data] at this
            simp at this
          rw [hz]
          (obtain ⟨HRz, hbZ⟩ := res_row (x := .int .u64 0) (y := .int .u64 0) (z := .int .u64 0) hR6 (Below.refl _ _) hbw6 (Nat.le_refl _); clear r0 r1 r2 rf; generalize (((w6.setCell ⟨w.heap.size, 0, none⟩ (.int .u64 0)).setCell ⟨w.heap.size, 1, none⟩ (.int .u64 0)).setCell ⟨w.heap.size, 2, none⟩ (.int .u64 0)) = Z at HRz hbZ ⊢; have z0 := HRz.cell 0 _ rfl; have z1 := HRz.cell 1 _ rfl; have z2 := HRz.cell 2 _ rfl; refine bodyPost_ret (v := .tuple #[.agg #[.int .u64 0, .int .u64 0, .int .u64 0], .int .i64 11]) (by simp [results, Tryd.results10, go_sem, z0, z1, z2]) rfl ⟨rfl, hbZ⟩)
      · have te : (e != 0) = true := by simpa using he
        have H0 := Lib.hid h0
        clear he h0
        (go_upto_region 15 with (first | (go_at_call 29; refine RT.out.mono ?_; rintro r w5 ⟨rfl, hb5⟩) | (go_at_call 8; refine (HT.out _).mono ?_; rintro r w6 ⟨rfl, hb6⟩)); have hBx := (Blk.new w5 #[.int .u64 x0, .int .u64 x1, .int .u64 x2] 24).later hb6; have x0c := hBx.cell 0 _ rfl; have x1c := hBx.cell 1 _ rfl; have x2c := hBx.cell 2 _ rfl; have hR6 := ((HRR.out.later hb5).alloc (.cells #[.int .u64 x0, .int .u64 x1, .int .u64 x2] 24)).later hb6; have r0 := hR6.cell 0 _ rfl; have r1 := hR6.cell 1 _ rfl; have r2 := hR6.cell 2 _ rfl; have rf := hR6.frozen; have hbw6 : Below w.heap.size w w6 := Bel.step' ((Bel.step' hbr hb5).alloc (Bel.step' hbr hb5).size _) hb6; go_wp2)
        have hz : rparseV s.data.toList n = (tm0, 11) := by rw [HV.out, if_neg (fun h => H0.out h.1)]
        rw [hz]
        (obtain ⟨HRz, hbZ⟩ := res_row (x := .int .u64 0) (y := .int .u64 0) (z := .int .u64 0) hR6 (Below.refl _ _) hbw6 (Nat.le_refl _); clear r0 r1 r2 rf; generalize (((w6.setCell ⟨w.heap.size, 0, none⟩ (.int .u64 0)).setCell ⟨w.heap.size, 1, none⟩ (.int .u64 0)).setCell ⟨w.heap.size, 2, none⟩ (.int .u64 0)) = Z at HRz hbZ ⊢; have z0 := HRz.cell 0 _ rfl; have z1 := HRz.cell 1 _ rfl; have z2 := HRz.cell 2 _ rfl; refine bodyPost_ret (v := .tuple #[.agg #[.int .u64 0, .int .u64 0, .int .u64 0], .int .i64 11]) (by simp [results, Tryd.results10, go_sem, z0, z1, z2]) rfl ⟨rfl, hbZ⟩)
theorem refparse_at (s : ByteArray) (n : Int) (w : World) (hs : s.size < 4294967281) :
    Calls Tryd.prog 10 #[.string s, .int .i64 n] w fun e w' => e = .returned (.tuple #[tmV (rparseV s.data.toList n).1, .int .i64 (rparseV s.data.toList n).2]) ∧ Below w.heap.size w w' := by
  by_cases h : n < 1 ∨ n > 3
  · have e : rparseV s.data.toList n = (tm0, 10) := by unfold rparseV; rw [if_pos h]
    rw [e]; exact refparse_arity s n w h
  · obtain ⟨m, rfl⟩ : ∃ m : Nat, n = m := ⟨n.toNat, by omega⟩
    exact refparse_in s m w hs (by omega) (by omega)
end Go.Proofs.YtiiegpklpmogmaaDoor
