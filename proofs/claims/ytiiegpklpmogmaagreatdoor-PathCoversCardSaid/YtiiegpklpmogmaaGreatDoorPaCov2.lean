/- PathCovers, walked. -/
import Derived.Test.YtiiegpklpmogmaaGreatDoorPaCov1
import Derived.Deep.DeepCutAuto
set_option linter.unusedVariables false
set_option linter.unusedSimpArgs false
namespace Go.Proofs.YtiiegpklpmogmaaGreatDoor
open Go.RowKit Go.Sort

set_option maxHeartbeats 8000000 in
set_option maxRecDepth 60000 in
theorem covers_at (A : Option Addr) (n c : Nat) (xs : List Tm) (S : Nat → Prop) (w : World) (hg : Glob w) (h : Rd tmR w S A n c xs) (hbig : n * 24 ≤ 140737488355328) :
    Calls Tryz.prog 10 #[.slice A n c] w fun e w' => e = .returned (.bool true) ∧ Below w.heap.size w w' := by
  have HG := Lib.hid hg
  have hgp := pt_guard
  have hsm := h.small
  have hle := h.le
  have hln := Lib.hid h.length
  have CL := Lib.hid (least_at A n c xs S w h hbig)
  have HL0 := Lib.hid h
  clear hg h
  go_enter Tryz.func10, Tryz.ntmps10
  go_wp2_with (go_at_call 45; refine CL.out.mono ?_; rintro e w1 ⟨Am, cm, rfl, hown, hb1⟩)
  obtain ⟨Am', cm', em, hrm⟩ := own_rd (enc := tmCells) (hl := fun _ => rfl) (xs := leastV xs) hown
  injection em with em1 _ em3
  subst em1; subst em3
  have hsmm := hrm.small
  have hlem := hrm.le
  have HM := Lib.hid hrm
  have HL := Lib.hid (HL0.out.below hb1)
  have HB1 := Lib.hid hb1
  have hmn : (leastV xs).length ≤ n := by have := leastV_length xs; have := hln.out; omega
  have hCov : Hid (∀ x, x ∈ xs → openV (leastV xs) x = true) := Lib.hid fun x hx => least_cov hx
  have hSub : Hid (∀ y, y ∈ leastV xs → hasB (xs.take n) y = true) := Lib.hid fun y hy => by
    unfold hasB
    rw [List.take_of_length_le (by rw [hln.out]; exact Nat.le_refl _)]
    exact decide_eq_true (least_sub hy)
  have hAp : Hid (∀ i j x y, (leastV xs)[i]? = some x → (leastV xs)[j]? = some y → i ≠ j → aheadB x y = false) := Lib.hid fun i j x y h1 h2 h3 => least_apart h1 h2 h3
  have hRi : Hid (∀ i x y, (leastV xs)[i]? = some x → (leastV xs)[i + 1]? = some y → cmpV x y < 0) := Lib.hid fun i x y h1 h2 => least_rises h1 h2
  have hAg : Hid (leastV (leastV xs) = leastV xs) := Lib.hid (least_again xs)
  clear hown hrm hb1 CL HL0
  generalize leastV xs = ms at *
  go_loopw [20] (fun v20 wr => ∃ i : Nat, i ≤ n ∧ v20 = .int .i64 i ∧ Below w1.heap.size w1 wr) (fun v20 _ => n - (intOf v20).toNat)
  case atStart => exact ⟨0, by omega, rfl, Below.refl _ _⟩
  case round =>
    obtain ⟨i, hi', rfl, hbel⟩ := hrel
    have i0 : 0 ≤ (i : Int) := by omega
    by_cases hlt : i < n
    · have il : (i : Int) < n := by omega
      obtain ⟨bl, ol, x, rfl, hx, x0, x1, x2, hbl⟩ := HL.out.cells3' hbel i hlt
      have hcx := Lib.hid (hCov.out x (List.mem_of_getElem? hx))
      clear hx
      obtain ⟨xa, xb, xc⟩ := x
      have hbr := hbel.size
      go_wp2
      clear x0 x1 x2
      go_loopw [6, 26] (fun v6 v26 wr2 => ∃ j : Nat, j ≤ ms.length ∧ v26 = .int .i64 j ∧ v6 = .bool (openV (ms.take j) ⟨xa, xb, xc⟩) ∧ Hid (Blk wr2 wr.heap.size #[.int .u64 xa, .int .u64 xb, .int .u64 xc] 40) ∧ Below w1.heap.size w1 wr2) (fun _ v26 _ => ms.length - (intOf v26).toNat)
      case atStart => exact ⟨0, by omega, rfl, rfl, Lib.hid (Blk.new _ _ _), hbel.alloc hbr _⟩
      case round =>
        obtain ⟨j, hj, rfl, rfl, HB, hb2⟩ := hrel
        clear hbel
        have j0 : 0 ≤ (j : Int) := by omega
        by_cases hjm : j < ms.length
        · have jl : (j : Int) < ms.length := by omega
          obtain ⟨bq, oq, q, eq, hq, q0, q1, q2, hbq⟩ := HM.out.cells3' hb2 j hjm
          subst eq
          have hot := open_take (x := ⟨xa, xb, xc⟩) hq
          have CA := fun W => pahead_at q ⟨xa, xb, xc⟩ W
          have y0 := HB.out.cell 0 _ rfl
          have y1 := HB.out.cell 1 _ rfl
          have y2 := HB.out.cell 2 _ rfl
          have hyl := HB.out.lt
          have hb2s := hb2.size
          clear hq
          obtain ⟨qa, qb, qc⟩ := q
          simp only [tmV] at CA
          generalize aheadB ⟨qa, qb, qc⟩ ⟨xa, xb, xc⟩ = av at CA hot
          have HO := Lib.hid hot
          have HCA := Lib.hid CA
          clear hot CA
          cases hv : openV (ms.take j) ⟨xa, xb, xc⟩ with
          | true =>
            rw [hv] at HO
            clear hv
            go_wp2
            exact ⟨⟨j + 1, by omega, rfl, by rw [HO.out]; rfl, Lib.hid (HB.out.alloc _), hb2.alloc hb2s _⟩, by simp [intOf]; omega⟩
          | false =>
            rw [hv] at HO
            clear hv
            go_wp2_with (go_at_call 35; refine (HCA.out _).mono ?_; rintro e w4 ⟨rfl, hb4⟩)
            exact ⟨⟨j + 1, by omega, rfl, by rw [HO.out]; rfl, Lib.hid ((HB.out.alloc _).later hb4), (hb2.alloc hb2s _).trans (hb4.mono (by simp; omega))⟩, by simp [intOf]; omega⟩
        · obtain rfl : j = ms.length := by omega
          have jl : ¬ (ms.length : Int) < ms.length := by omega
          rw [show openV (ms.take ms.length) ⟨xa, xb, xc⟩ = true by rw [List.take_length]; exact hcx.out]
          go_wp2
          exact ⟨⟨i + 1, by omega, rfl, hb2⟩, by simp [intOf]; omega⟩
    · obtain rfl : i = n := by omega
      have il : ¬ (i : Int) < i := by omega
      clear hCov
      go_wp2
      go_loopw [42] (fun v42 wr => ∃ i : Nat, i ≤ ms.length ∧ v42 = .int .i64 i ∧ Below w1.heap.size w1 wr) (fun v42 _ => ms.length - (intOf v42).toNat)
      case atStart => exact ⟨0, by omega, rfl, hbel⟩
      case round =>
        clear hbel
        obtain ⟨k, hk', rfl, hbel⟩ := hrel
        have k0 : 0 ≤ (k : Int) := by omega
        by_cases hkm : k < ms.length
        · have kl : (k : Int) < ms.length := by omega
          obtain ⟨bm, om, y, em, hy, y0, y1, y2, hbm⟩ := HM.out.cells3' hbel k hkm
          subst em
          have HY := Lib.hid hy
          have hbr := hbel.size
          clear hy
          obtain ⟨ya, yb, yc⟩ := y
          go_wp2
          clear y0 y1 y2
          have HYB : Hid (Blk (wr.alloc (.cells #[.int .u64 ya, .int .u64 yb, .int .u64 yc] 40)) wr.heap.size #[.int .u64 ya, .int .u64 yb, .int .u64 yc] 40) := Lib.hid (Blk.new _ _ _)
          have hbz := hbel.alloc hbr (.cells #[.int .u64 ya, .int .u64 yb, .int .u64 yc] 40)
          clear hbel hbr
          generalize wr.heap.size = yk at *
          generalize wr.alloc (.cells #[.int .u64 ya, .int .u64 yb, .int .u64 yc] 40) = wz at *
          go_loopw [11, 49] (fun v11 v49 wr2 => ∃ j : Nat, j ≤ i ∧ v49 = .int .i64 j ∧ v11 = .bool (hasB (xs.take j) ⟨ya, yb, yc⟩) ∧ Hid (Blk wr2 yk #[.int .u64 ya, .int .u64 yb, .int .u64 yc] 40) ∧ Below w1.heap.size w1 wr2) (fun _ v49 _ => i - (intOf v49).toNat)
          case atStart => exact ⟨0, by omega, rfl, rfl, HYB, hbz⟩
          case round =>
            clear HYB hbz
            obtain ⟨j, hj, rfl, rfl, HB, hb2⟩ := hrel
            have j0 : 0 ≤ (j : Int) := by omega
            by_cases hji : j < i
            · have jl : (j : Int) < i := by omega
              obtain ⟨bq, oq, q, eq, hq, q0, q1, q2, hbq⟩ := HL.out.cells3' hb2 j hji
              subst eq
              have hot := has_take (y := ⟨ya, yb, yc⟩) hq
              have he := fun W => pt_eql ⟨ya, yb, yc⟩ q W
              have y0 := HB.out.cell 0 _ rfl
              have y1 := HB.out.cell 1 _ rfl
              have y2 := HB.out.cell 2 _ rfl
              have hyl := HB.out.lt
              have hb2s := hb2.size
              clear hq
              obtain ⟨qa, qb, qc⟩ := q
              simp only [tmV] at he
              generalize decide ((⟨ya, yb, yc⟩ : Tm) = ⟨qa, qb, qc⟩) = dv at he hot
              have HO := Lib.hid hot
              clear hot
              cases hv : hasB (xs.take j) ⟨ya, yb, yc⟩ with
              | true =>
                rw [hv] at HO
                clear hv
                go_wp2
                exact ⟨⟨j + 1, by omega, rfl, by rw [HO.out]; rfl, Lib.hid (HB.out.alloc _), hb2.alloc hb2s _⟩, by simp [intOf]; omega⟩
              | false =>
                rw [hv] at HO
                clear hv
                go_wp2
                exact ⟨⟨j + 1, by omega, rfl, by rw [HO.out]; rfl, Lib.hid (HB.out.alloc _), hb2.alloc hb2s _⟩, by simp [intOf]; omega⟩
            · obtain rfl : j = i := by omega
              have jl : ¬ (j : Int) < j := by omega
              rw [show hasB (xs.take j) ⟨ya, yb, yc⟩ = true from hSub.out _ (List.mem_of_getElem? HY.out)]
              go_upto_region 23 with fail
              go_cut [75] (fun s75 wc => s75 = .bool false ∧ Hid (Blk wc yk #[.int .u64 ya, .int .u64 yb, .int .u64 yc] 40) ∧ Below w1.heap.size w1 wc)
              case first => as_aux_lemma =>
                rcases k with _ | k
                · go_wp2
                  go_quiet (fail)
                  go_wp2
                  go_meet
                  exact ⟨rfl, Lib.hid (HB.out.drewN _), Bel.drewN hb2 _⟩
                · obtain ⟨_, _, z, ez, hz, z0, z1, z2, _⟩ := HM.out.cells3' hb2 k (by omega)
                  injection ez with ez; injection ez with ez1 ez2
                  subst ez1; subst ez2
                  have hcm := hRi.out _ _ _ hz HY.out
                  have CA := fun W => pcompare_at z ⟨ya, yb, yc⟩ W
                  generalize cmpV z ⟨ya, yb, yc⟩ = cv at hcm CA
                  have tcv : decide (0 ≤ cv) = false := decide_eq_false (by omega)
                  obtain ⟨za, zb, zc⟩ := z
                  simp only [tmV] at CA
                  have ei : ((k + 1 : Nat) : Int) - 1 = (k : Int) := by omega
                  have gi : (0 : Int) < ((k + 1 : Nat) : Int) := by omega
                  clear hz hcm
                  have Q := Lib.hid (quiet_call (X := wr) (fun W _ => CA W))
                  clear CA
                  replace z0 := cell_regrown z0
                  replace z1 := cell_regrown z1
                  replace z2 := cell_regrown z2
                  have y0 := cell_regrown (HB.out.cell 0 _ rfl)
                  have y1 := cell_regrown (HB.out.cell 1 _ rfl)
                  have y2 := cell_regrown (HB.out.cell 2 _ rfl)
                  refine wp_region_quiet_below (by kernel_rfl) (by kernel_rfl) ?_; (repeat (go_big_quiet_step (exact Q.out _ _))); refine wpQuiet_nil ?_; intro _ hw'; obtain ⟨⟨dq, osq⟩, hw''⟩ := hw'; subst hw''
                  have hb5 := below_regrown wr dq osq
                  clear z0 z1 z2 y0 y1 y2 Q
                  generalize grow (redrawn wr dq) osq = w5 at *
                  go_wp2
                  go_meet
                  exact ⟨rfl, Lib.hid (HB.out.later hb5), hb2.trans (hb5.mono hb2.size)⟩
              case rest => as_aux_lemma =>
                clear HB hb2
                obtain ⟨rfl, HB, hb2⟩ := hcut
                go_wp2
                go_loopw [78] (fun v78 wr2 => ∃ j : Nat, j ≤ ms.length ∧ v78 = .int .i64 j ∧ Hid (Blk wr2 yk #[.int .u64 ya, .int .u64 yb, .int .u64 yc] 40) ∧ Below w1.heap.size w1 wr2) (fun v78 _ => ms.length - (intOf v78).toNat)
                case atStart => exact ⟨0, by omega, rfl, HB, hb2⟩
                case round =>
                  clear HB hb2
                  obtain ⟨l, hl, rfl, HB, hb2⟩ := hrel
                  have l0 : 0 ≤ (l : Int) := by omega
                  by_cases hlm : l < ms.length
                  · have ll : (l : Int) < ms.length := by omega
                    obtain ⟨_, _, z, ez, hz, z0, z1, z2, _⟩ := HM.out.cells3' hb2 l hlm
                    injection ez with ez; injection ez with ez1 ez2
                    subst ez1; subst ez2
                    have hb2s := hb2.size
                    by_cases hlk : l = k
                    · subst hlk
                      have tlk : ((l : Int) != (l : Int)) = false := by simp
                      clear hz
                      go_wp2
                      exact ⟨⟨l + 1, by omega, rfl, Lib.hid (HB.out.alloc _), hb2.alloc hb2s _⟩, by simp [intOf]; omega⟩
                    · have tlk : ((k : Int) != (l : Int)) = true := by simp; omega
                      have hah := hAp.out _ _ _ _ HY.out hz (fun e => hlk e.symm)
                      have CA := fun W => pahead_at ⟨ya, yb, yc⟩ z W
                      rw [hah] at CA
                      obtain ⟨za, zb, zc⟩ := z
                      simp only [tmV] at CA
                      have HCA := Lib.hid CA
                      have y0 := HB.out.cell 0 _ rfl
                      have y1 := HB.out.cell 1 _ rfl
                      have y2 := HB.out.cell 2 _ rfl
                      have hyl := HB.out.lt
                      clear hz hah CA hlk
                      go_wp2_with (go_at_call 35; refine (HCA.out _).mono ?_; rintro e w4 ⟨rfl, hb4⟩)
                      exact ⟨⟨l + 1, by omega, rfl, Lib.hid ((HB.out.alloc _).later hb4), (hb2.alloc hb2s _).trans (hb4.mono (by simp; omega))⟩, by simp [intOf]; omega⟩
                  · obtain rfl : l = ms.length := by omega
                    have ll : ¬ (ms.length : Int) < ms.length := by omega
                    go_wp2
                    exact ⟨⟨k + 1, by omega, rfl, hb2⟩, by simp [intOf]; omega⟩
        · obtain rfl : k = ms.length := by omega
          have kl : ¬ (ms.length : Int) < ms.length := by omega
          have CL2 := fun W (hW : Below w1.heap.size w1 W) => least_at Am ms.length cm ms _ W (HM.out.below hW) (by omega)
          rw [hAg.out] at CL2
          have HCL := Lib.hid CL2
          have HCS := Lib.hid (fun W A' c' S' (hW : Below w1.heap.size w1 W) hr => by
            have h := same_at A' ms.length c' ms Am ms.length cm ms S' _ W hr (HM.out.below hW)
            rw [decide_eq_true rfl] at h
            exact h)
          have hw1 := HB1.out
          clear CL2 HL hSub hAp hRi hAg
          go_wp2_with (first
            | (go_at_call 40; refine (known_at _ (HG.out.below (hw1.trans (hbel.mono hw1.size)))).mono ?_; rintro e w4 ⟨rfl, hb4⟩; have hbw4 := hbel.trans (hb4.mono hbel.size))
            | (go_at_call 45; refine (HCL.out _ hbw4).mono ?_; rintro e w5 ⟨A5, c5, rfl, hown5, hb5⟩; have hbw5 := hbw4.trans (hb5.mono hbw4.size); obtain ⟨A6, c6, e6, hrd6⟩ := own_rd (enc := tmCells) (hl := fun _ => rfl) (xs := ms) hown5; injection e6 with e7 _ e8; subst e7; subst e8)
            | (go_at_call 46; refine (HCS.out _ _ _ _ hbw5 hrd6).mono ?_; rintro e w6 ⟨rfl, hb6⟩; have hbw6 := hbw5.trans (hb6.mono hbw5.size)))
          go_ret
          exact ⟨rfl, hw1.trans (hbw6.mono hw1.size)⟩
end Go.Proofs.YtiiegpklpmogmaaGreatDoor
