/- The document's own answer for chapter 2: sums. -/
import Derived.Test.YtiiegpklpmogmaaGreatDoorR2A
set_option linter.unusedVariables false
set_option linter.unusedSimpArgs false
namespace Go.Proofs.YtiiegpklpmogmaaGreatDoor
open Go.RowKit

/-- A row of three numbers that is read. -/
def U3 (B : Nat) (v : Value) (z0 z1 z2 : Int) (W : World) : Prop := ∃ g c : Nat, v = .slice (some ⟨g, 0, none⟩) 3 c ∧ B ≤ g ∧ 3 ≤ c ∧ c ≤ 9223372036854775807 ∧ W.cell? ⟨g, 0, none⟩ = some (.int .u64 z0) ∧ W.cell? ⟨g, 1, none⟩ = some (.int .u64 z1) ∧ W.cell? ⟨g, 2, none⟩ = some (.int .u64 z2) ∧ g < W.heap.size
theorem U3.base {B B' : Nat} {v : Value} {z0 z1 z2 : Int} {W : World} (h : U3 B v z0 z1 z2 W) (hB : B' ≤ B) : U3 B' v z0 z1 z2 W := by
  obtain ⟨g, c, e, hg, h⟩ := h
  exact ⟨g, c, e, Nat.le_trans hB hg, h⟩
theorem U3.later {B : Nat} {v : Value} {z0 z1 z2 : Int} {W W' : World} (h : U3 B v z0 z1 z2 W) (hb : Below W.heap.size W W') : U3 B v z0 z1 z2 W' := by
  obtain ⟨g, c, e, hg, h1, h2, c0, c1, c2, hl⟩ := h
  obtain ⟨hc, _⟩ := Bel.cells hb
  exact ⟨g, c, e, hg, h1, h2, (hc _ _ hl).trans c0, (hc _ _ hl).trans c1, (hc _ _ hl).trans c2, Nat.lt_of_lt_of_le hl hb.size⟩
theorem U3.blk {B g : Nat} {z0 z1 z2 : Int} {t : Nat} {W : World} (h : Blk W g #[.int .u64 z0, .int .u64 z1, .int .u64 z2] t) (hB : B ≤ g) : U3 B (.slice (some ⟨g, 0, none⟩) 3 3) z0 z1 z2 W :=
  ⟨g, 3, rfl, hB, by omega, by omega, h.cell 0 _ rfl, h.cell 1 _ rfl, h.cell 2 _ rfl, h.lt⟩

theorem Tryz.info_u64 : (Tryz.prog.info? 23).map (fun i => (i.zero, i.size, i.bytes)) = some (some (.int .u64 0), 1, 8) := by kernel_rfl
/-- The greatest number. -/
theorem most_le {x y : Int} : (18446744073709551615 - y < x) ↔ ¬ x + y < M64 := by unfold M64; omega

def u64s (xs : List Int) : Array Value := (xs.map (Value.int .u64)).toArray
def zsum (x y : Tm) : List Int := [x.a + y.a, x.b + y.b, x.c + y.c]
theorem fit_at {x y : Tm} {k : Nat} {xk yk : Int} (hx : (nums x)[k]? = some xk) (hy : (nums y)[k]? = some yk) : (zsum x y)[k]? = some (xk + yk) ∧ (fitsB x y = true → xk + yk < M64) := by
  unfold nums at hx hy
  rcases k with _ | _ | _ | k
  · simp at hx hy; subst hx; subst hy; exact ⟨rfl, fun h => ((fitsB_iff x y).1 h).1⟩
  · simp at hx hy; subst hx; subst hy; exact ⟨rfl, fun h => ((fitsB_iff x y).1 h).2.1⟩
  · simp at hx hy; subst hx; subst hy; exact ⟨rfl, fun h => ((fitsB_iff x y).1 h).2.2⟩
  · simp at hx
theorem fit_all {x y : Tm} (h : ∀ j xj yj, j < 3 → (nums x)[j]? = some xj → (nums y)[j]? = some yj → xj + yj < M64) : fitsB x y = true := by
  rw [fitsB_iff]
  exact ⟨h 0 _ _ (by omega) rfl rfl, h 1 _ _ (by omega) rfl rfl, h 2 _ _ (by omega) rfl rfl⟩
theorem nums_ok {x : Tm} (h : x.ok) {k : Nat} {xk : Int} (hx : (nums x)[k]? = some xk) : 0 ≤ xk ∧ xk ≤ 18446744073709551615 := by
  obtain ⟨⟨_, _⟩, ⟨_, _⟩, ⟨_, _⟩⟩ := h
  unfold nums at hx
  rcases k with _ | _ | _ | k
  · simp at hx; omega
  · simp at hx; omega
  · simp at hx; omega
  · simp at hx

/-- What sums answers. -/
def SumPost (x y : Tm) (w : World) (e : Ending) (w' : World) : Prop := ∃ v, e = .returned (.tuple #[v, .bool (fitsB x y)]) ∧ U3 w.heap.size v (sumT x y).a (sumT x y).b (sumT x y).c w' ∧ Below w.heap.size w w'

/-- What the operations of the round's region come up with. -/
def r7 (ao : Option Addr) (cv g1 g2 k : Nat) (xk yk : Int) (j : Nat) (v : Value) (W : World) : Prop :=
  match j with
  | 0 => v = .slice ao k cv
  | 1 => v = .slice (some ⟨g1, 0, none⟩) 3 3
  | 2 => v = .int .i64 k
  | 3 => v = .pointer (some ⟨g1, k, none⟩)
  | 4 => v = .int .u64 xk
  | 5 => v = .slice (some ⟨g2, 0, none⟩) 3 3
  | 6 => v = .int .i64 k
  | 7 => v = .pointer (some ⟨g2, k, none⟩)
  | 8 => v = .int .u64 yk
  | 9 => v = .int .u64 (xk + yk)
  | _ => ∃ q, v = .slice (some ⟨q, 0, none⟩) 1 1 ∧ Blk W q #[.int .u64 (xk + yk)] 23
theorem r7_stands {ao : Option Addr} {cv g1 g2 k : Nat} {xk yk : Int} {j : Nat} {v : Value} {W W' : World} (h : r7 ao cv g1 g2 k xk yk j v W) (hb : Below W.heap.size W W') : r7 ao cv g1 g2 k xk yk j v W' := by
  match j with
  | 0 | 1 | 2 | 3 | 4 | 5 | 6 | 7 | 8 | 9 => exact h
  | (j + 10) => obtain ⟨q, e, h1⟩ := h; exact ⟨q, e, h1.later hb⟩
set_option maxRecDepth 60000 in
theorem bs7 {ao : Option Addr} {cv g1 g2 k : Nat} (A : Act) (W : World) (xk yk : Int) (e1 : A.tmps.getD 32 undef = .int .u64 (xk + yk)) (ps : String) (af : Array Edge) :
   Fct.opVal (fun a b => Below a.heap.size a b) Tryz.prog { dst := some 33, op := .buildSlice 79 1 #[(0, .tmp 32)], type := 79, pos := ps, after := af, guard := none } A W (r7 ao cv g1 g2 k xk yk 10) (fun _ _ => False) := by
  unfold Fct.opVal Oper.wp
  simp only [execOp, Act.eval, List.map_toArray, List.map_cons, List.map_nil]
  rw [e1]
  clear e1
  go_simp
  exact ⟨_, rfl, Bel.alloc' (Below.refl _ _) _, ⟨_, rfl, Blk.new _ _ _⟩⟩
set_option maxHeartbeats 8000000 in
set_option maxRecDepth 60000 in
theorem r2sums_at (x y : Tm) (hx : x.ok) (hy : y.ok) (g1 g2 : Nat) (w : World) (h1 : Blk w g1 (u64s (nums x)) 23) (h2 : Blk w g2 (u64s (nums y)) 23) :
    Calls Tryz.prog 72 #[.slice (some ⟨g1, 0, none⟩) 3 3, .slice (some ⟨g2, 0, none⟩) 3 3] w (SumPost x y w) := by
  have HX := Lib.hid hx
  have HY := Lib.hid hy
  have H1 := Lib.hid h1
  have H2 := Lib.hid h2
  clear hx hy h1 h2
  obtain ⟨i0, hi, hz0, hz1, hz2⟩ := info_parts Tryz.info_u64
  go_enter Tryz.func72, Tryz.ntmps72
  go_wp2
  go_loopw [6, 7] (fun v6 v7 wr => ∃ (k : Nat) (ao : Option Addr) (cv : Nat), k ≤ 3 ∧ v7 = .int .i64 k ∧ v6 = .slice ao k cv ∧ wr.ownsRow w.heap.size 23 1 (.slice ao k cv) k (((zsum x y).take k).map (Value.int .u64)) ∧ Hid (∀ j xj yj, j < k → (nums x)[j]? = some xj → (nums y)[j]? = some yj → xj + yj < M64) ∧ Below w.heap.size w wr) (fun _ v7 _ => 3 - (intOf v7).toNat)
  case atStart => exact ⟨0, none, 0, by omega, rfl, rfl, World.ownsRow_nil _ _ _ _, Lib.hid (fun j _ _ h => absurd h (by omega)), by (repeat first | exact Below.refl _ _ | assumption | refine Bel.alloc' ?_ _ | refine Bel.drewN ?_ _ | refine Below.drew ?_ | refine Bel.step' ?_ (by assumption))⟩
  case round =>
    obtain ⟨k, ao, cv, hk, rfl, rfl, hown, HF, hbr⟩ := hrel
    have k0 : 0 ≤ (k : Int) := by omega
    by_cases hk3 : k < 3
    · have k1 : (k : Int) < 3 := by omega
      obtain ⟨xk, hxk⟩ : ∃ z, (nums x)[k]? = some z := ⟨_, List.getElem?_eq_getElem (by simp [nums]; omega)⟩
      obtain ⟨yk, hyk⟩ : ∃ z, (nums y)[k]? = some z := ⟨_, List.getElem?_eq_getElem (by simp [nums]; omega)⟩
      have ux : (u64s (nums x))[k]? = some (.int .u64 xk) := by simp [u64s, hxk]
      have uy : (u64s (nums y))[k]? = some (.int .u64 yk) := by simp [u64s, hyk]
      have B1 := H1.out.below hbr H1.out.lt
      have B2 := H2.out.below hbr H2.out.lt
      have c1 := B1.cell k _ ux
      have c2 := B2.cell k _ uy
      have hxb := nums_ok HX.out hxk
      have hyb := nums_ok HY.out hyk
      have hfa := fit_at (x := x) (y := y) hxk hyk
      have HFA := Lib.hid hfa
      have HXK := Lib.hid hxk
      have HYK := Lib.hid hyk
      have HB1 := Lib.hid B1
      have HB2 := Lib.hid B2
      clear hfa hxk hyk B1 B2
      obtain ⟨hx0, hx1⟩ := hxb
      obtain ⟨hy0, hy1⟩ := hyb
      by_cases hfit : xk + yk < M64
      · have tz : decide (18446744073709551615 - yk < xk) = false := decide_eq_false (by rw [most_le]; simpa using hfit)
        have HFit := Lib.hid hfit
        clear hfit
        go_wp2
        go_quiet (fail)
        go_upto_region 7 with fail
        have B1 := Lib.hid (HB1.out.drewN nq)
        have B2 := Lib.hid (HB2.out.drewN nq)
        have hbd := Bel.drewN hbr nq
        have hownd := own_below hown (Bel.drewN (Below.refl wr.heap.size wr) nq)
        clear c1 c2 HB1 HB2 hbr hown
        generalize wr.drewN nq = wz at *
        refine wp_region_facts2 11 (r7 ao cv g1 g2 k xk yk) (fun _ _ _ => False) (by kernel_rfl) (by kernel_rfl) (fun j v W W' h hb => r7_stands h hb) ?op ?en
        case op =>
          simp only [List.take_succ_cons, List.take_zero, Fct.obl]
          refine ⟨fun us W hW hR A' hf => ?_, fun us W hW hR A' hf => ?_, fun us W hW hR A' hf => ?_, fun us W hW hR A' hf => ?_, fun us W hW hR A' hf => ?_, fun us W hW hR A' hf => ?_, fun us W hW hR A' hf => ?_, fun us W hW hR A' hf => ?_, fun us W hW hR A' hf => ?_, fun us W hW hR A' hf => ?_, fun us W hW hR A' hf => ?_, trivial⟩
          case refine_1 => as_aux_lemma => (have e1 : A'.tmps.getD 6 undef = .slice ao k cv := hf 6; clear hf hR; unfold Fct.opVal; go_simp; exact ⟨_, rfl, Below.refl _ _, rfl⟩)
          case refine_2 => as_aux_lemma => (have e1 : A'.tmps.getD 0 undef = .slice (some ⟨g1, 0, none⟩) 3 3 := hf 0; clear hf hR; unfold Fct.opVal; go_simp; exact ⟨_, rfl, Below.refl _ _, rfl⟩)
          case refine_3 => as_aux_lemma => (have e1 : A'.tmps.getD 7 undef = .int .i64 k := hf 7; clear hf hR; unfold Fct.opVal; go_simp; exact ⟨_, rfl, Below.refl _ _, rfl⟩)
          case refine_4 => as_aux_lemma => (have e1 : A'.tmps.getD 24 undef = us 1 := hf 24; have e2 : A'.tmps.getD 25 undef = us 2 := hf 25; have h1 : us 1 = .slice (some ⟨g1, 0, none⟩) 3 3 := hR 1 (by kernel_rfl); have h2 : us 2 = .int .i64 k := hR 2 (by kernel_rfl); rw [h1] at e1; rw [h2] at e2; clear hf hR h1 h2; unfold Fct.opVal; go_simp; exact ⟨_, rfl, Below.refl _ _, rfl⟩)
          case refine_5 => as_aux_lemma => (have e1 : A'.tmps.getD 26 undef = us 3 := hf 26; have h1 : us 3 = .pointer (some ⟨g1, k, none⟩) := hR 3 (by kernel_rfl); rw [h1] at e1; have y0 := (B1.out.later hW).cell k _ (by assumption); clear hf hR h1; unfold Fct.opVal; go_simp; exact ⟨_, rfl, Below.refl _ _, rfl⟩)
          case refine_6 => as_aux_lemma => (have e1 : A'.tmps.getD 1 undef = .slice (some ⟨g2, 0, none⟩) 3 3 := hf 1; clear hf hR; unfold Fct.opVal; go_simp; exact ⟨_, rfl, Below.refl _ _, rfl⟩)
          case refine_7 => as_aux_lemma => (have e1 : A'.tmps.getD 7 undef = .int .i64 k := hf 7; clear hf hR; unfold Fct.opVal; go_simp; exact ⟨_, rfl, Below.refl _ _, rfl⟩)
          case refine_8 => as_aux_lemma => (have e1 : A'.tmps.getD 28 undef = us 5 := hf 28; have e2 : A'.tmps.getD 29 undef = us 6 := hf 29; have h1 : us 5 = .slice (some ⟨g2, 0, none⟩) 3 3 := hR 5 (by kernel_rfl); have h2 : us 6 = .int .i64 k := hR 6 (by kernel_rfl); rw [h1] at e1; rw [h2] at e2; clear hf hR h1 h2; unfold Fct.opVal; go_simp; exact ⟨_, rfl, Below.refl _ _, rfl⟩)
          case refine_9 => as_aux_lemma => (have e1 : A'.tmps.getD 30 undef = us 7 := hf 30; have h1 : us 7 = .pointer (some ⟨g2, k, none⟩) := hR 7 (by kernel_rfl); rw [h1] at e1; have y0 := (B2.out.later hW).cell k _ (by assumption); clear hf hR h1; unfold Fct.opVal; go_simp; exact ⟨_, rfl, Below.refl _ _, rfl⟩)
          case refine_10 => as_aux_lemma =>
            have e1 : A'.tmps.getD 27 undef = us 4 := hf 27
            have e2 : A'.tmps.getD 31 undef = us 8 := hf 31
            have h1 : us 4 = .int .u64 xk := hR 4 (by kernel_rfl)
            have h2 : us 8 = .int .u64 yk := hR 8 (by kernel_rfl)
            rw [h1] at e1
            rw [h2] at e2
            have hw : IntKind.u64.wrap (xk + yk) = xk + yk := by have := HFit.out; unfold M64 at this; rw [IntKind.wrap_u64]; omega
            clear hf hR h1 h2
            unfold Fct.opVal
            go_simp
            exact ⟨_, rfl, Below.refl _ _, rfl⟩
          case refine_11 => as_aux_lemma =>
            have h1 : us 9 = .int .u64 (xk + yk) := hR 9 (by kernel_rfl)
            exact bs7 A' W xk yk ((hf 32).trans h1) _ _
        case en =>
          intro us W hW hR _
          as_aux_lemma =>
            have k0' : us 0 = .slice ao k cv := hR 0 (by omega)
            have k9 : ∃ q, us 10 = .slice (some ⟨q, 0, none⟩) 1 1 ∧ Blk W q #[.int .u64 (xk + yk)] 23 := hR 10 (by omega)
            obtain ⟨q, k9, hq⟩ := k9
            clear hR
            simp only [List.take_succ_cons, List.take_zero, List.drop_succ_cons, List.drop_zero, Fct.fin, k0', k9, Act.put, List.setIfInBounds_toArray, List.set_cons_zero, List.set_cons_succ]
            clear k0' k9
            have HOW := own_below hownd hW
            have hszW := hW.size
            have hszd := hbd.size
            go_wp2_with (at_builtin; refine wpList_append_own _ rfl _ _ 79 rfl w.heap.size 23 i0 (.int .u64 0) 1 8 Tryz.underlying79 hi hz0 hz1 hz2 rfl (by decide) _ _ _ rfl HOW ⟨q, 0, none⟩ 1 1 [.int .u64 (xk + yk)] rfl rfl ?qa1 ?qa2 ?qa3 ?qa4 ?qa5 ?_)
            case qa1 => intro j u hj; rw [Addr.add_lit]; exact hq.cell _ _ (by simpa using hj)
            case qa2 => intro u hu; simp at hu; subst hu; rfl
            case qa3 => unfold maxLen; omega
            case qa4 => omega
            case qa5 => omega
            intro v' w6 hown' hgrow6 hnil6
            go_wp2
            have hb6 : Below w.heap.size w w6 := (hbd.trans (hW.mono hbd.size)).grown hgrow6 (by omega) (fun z hz => by have := (HOW.lt z hz).1; omega)
            obtain ⟨ao', cv', rfl⟩ := own_form hown'
            refine ⟨⟨k + 1, ao', cv', by omega, rfl, rfl, ?_, Lib.hid ?_, hb6⟩, by simp [intOf]; omega⟩
            · rw [List.take_add_one, HFA.out.1]
              simpa using hown'
            · intro j xj yj hj h1 h2
              rcases Nat.lt_or_ge j k with hlt | hge
              · exact HF.out j xj yj hlt h1 h2
              · obtain rfl : j = k := by omega
                have e1 := HXK.out.symm.trans h1
                have e2 := HYK.out.symm.trans h2
                injection e1 with e1; injection e2 with e2
                subst e1; subst e2
                exact HFit.out
      · have tz : decide (18446744073709551615 - yk < xk) = true := decide_eq_true (by rw [most_le]; exact hfit)
        have hff : fitsB x y = false := by
          cases hb : fitsB x y with
          | false => rfl
          | true => exact absurd (HFA.out.2 hb) hfit
        have hsm : sumT x y = tm0 := by unfold sumT; rw [hff]; rfl
        have HFF := Lib.hid hff
        have HSM := Lib.hid hsm
        clear hff hsm hfit
        go_wp2
        go_quiet (fail)
        go_wp2
        go_ret2
        refine ⟨_, (by rw [HFF.out]; rfl), ?_, ?_⟩
        · rw [HSM.out]
          exact U3.blk (Blk.new _ _ _) (by have := hbr.size; simpa using this)
        · exact (Bel.drewN hbr _).alloc (Bel.drewN hbr _).size _
    · obtain rfl : k = 3 := by omega
      have hall := fit_all (x := x) (y := y) (fun j xj yj hj h1 h2 => HF.out j xj yj hj h1 h2)
      have HFF := Lib.hid hall
      have HSM := Lib.hid (sum_good hall)
      clear hall
      go_wp2
      go_ret2
      refine ⟨_, (by rw [HFF.out]; rfl), ?_, hbr⟩
      rw [HSM.out]
      rcases hown.2 with ⟨_, h0⟩ | ⟨g, cap, cur, he, hbg, hg, hcap, hm, _⟩
      · cases h0
      · injection he with he1 _ he3
        subst he1; subst he3
        have hc : ∀ j : Nat, j < 3 → wr.cell? ⟨g, j, none⟩ = _ := fun j hj => hown.cellAt j (by simpa [zsum] using hj)
        exact ⟨g, cv, rfl, hbg, by omega, by unfold maxLen at hm; omega, hc 0 (by omega), hc 1 (by omega), hc 2 (by omega), (Array.getElem?_eq_some_iff.1 hg).1⟩
end Go.Proofs.YtiiegpklpmogmaaGreatDoor
