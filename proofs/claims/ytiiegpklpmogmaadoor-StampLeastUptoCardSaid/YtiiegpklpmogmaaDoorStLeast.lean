/- StampLeast, walked. -/
import Derived.Test.YtiiegpklpmogmaaDoorSt16
import Derived.Test.YtiiegpklpmogmaaDoorFacts5
import Derived.Test.YtiiegpklpmogmaaDoorStPlain6
import Derived.Deep.DeepCutAuto
import Derived.Laws.AppendOwnNone
set_option linter.unusedVariables false
set_option linter.unusedSimpArgs false
namespace Go.Proofs.YtiiegpklpmogmaaDoor
open Go.RowKit Go.Sort

/-- The cells of an element, in a later world. -/
theorem Rd.cells3 {w wr : World} {S : Nat → Prop} {A : Option Addr} {n c : Nat} {xs : List Tm} (h : Rd tmR w S A n c xs) (hb : Below w.heap.size w wr) (i : Nat) (hi : i < n) :
    ∃ b off x, A = some ⟨b, off, none⟩ ∧ xs[i]? = some x ∧ wr.cell? ⟨b, off + i * 3, none⟩ = some (.int .u64 x.a) ∧ wr.cell? ⟨b, off + i * 3 + 1, none⟩ = some (.int .u64 x.b) ∧ wr.cell? ⟨b, off + i * 3 + 2, none⟩ = some (.int .u64 x.c) ∧ b < w.heap.size := by
  obtain ⟨b, off, x, cs, rfl, hx, hK, hbl, hS, hc⟩ := h.at_ i hi
  obtain rfl : cs = tmCells x := hK
  exact ⟨b, off, x, rfl, hx, (hb.cell (p := ⟨b, off + i * 3, none⟩) hbl).trans (hc 0 _ rfl), (hb.cell (p := ⟨b, _, none⟩) hbl).trans (hc 1 _ rfl), (hb.cell (p := ⟨b, _, none⟩) hbl).trans (hc 2 _ rfl), hbl⟩

theorem strict_apart {fs : List Tm} (h : Strict fs) {i j : Nat} {x y : Tm} (hi : fs[i]? = some x) (hj : fs[j]? = some y) (hne : i ≠ j) : x ≠ y := by
  obtain ⟨hil, hi⟩ := List.getElem?_eq_some_iff.1 hi
  obtain ⟨hjl, hj⟩ := List.getElem?_eq_some_iff.1 hj
  intro e
  subst e
  have hp := List.pairwise_iff_getElem.1 h
  rcases Nat.lt_or_ge i j with hlt | hge
  · have := hp i j hil hjl hlt
    rw [hi, hj, lt_irrefl] at this; cases this
  · have := hp j i hjl hil (by omega)
    rw [hi, hj, lt_irrefl] at this; cases this
theorem front_apart {xs : List Tm} {i j : Nat} {x y : Tm} (hi : (frontV xs)[i]? = some x) (hj : (frontV xs)[j]? = some y) (hne : i ≠ j) : aheadB x y = false := by
  cases h : aheadB x y with
  | false => rfl
  | true => exact absurd (front_none (List.mem_of_getElem? hi) (List.mem_of_getElem? hj) h) (strict_apart (front_strict xs) hi hj hne)
theorem front_rises {xs : List Tm} {i : Nat} {x y : Tm} (hi : (frontV xs)[i]? = some x) (hj : (frontV xs)[i + 1]? = some y) : cmpV x y < 0 := by
  obtain ⟨hil, hi⟩ := List.getElem?_eq_some_iff.1 hi
  obtain ⟨hjl, hj⟩ := List.getElem?_eq_some_iff.1 hj
  have := List.pairwise_iff_getElem.1 (front_strict xs) i (i + 1) hil hjl (by omega)
  rw [hi, hj] at this
  exact (cmpV_lt x y).2 this

theorem fct_step {E : World → World → Prop} {P : Program} {md : Region.Mode} {ops : Array Oper} {w0 : World} {R : Nat → Value → World → Prop} {O : Nat → Value → Nat → Prop} {T : Act → World → Prop} {o : Oper} {rest : List Oper} {k : Nat} {vs : Nat → Value} {a : Act}
    (h1 : ∀ w, E w0 w → (∀ j, Region.waitsFor md ops k j = true → R j (vs j) w) → Fct.opFct E P o a w (R k) (O k)) (h2 : ∀ v, Fct.walk E P md ops w0 R O T rest (k + 1) (fun j => if j = k then v else vs j) (a.put o.dst v)) : Fct.walk E P md ops w0 R O T (o :: rest) k vs a := ⟨h1, h2⟩
theorem fct_end {E : World → World → Prop} {P : Program} {md : Region.Mode} {ops : Array Oper} {w0 : World} {R : Nat → Value → World → Prop} {O : Nat → Value → Nat → Prop} {T : Act → World → Prop} {k : Nat} {vs : Nat → Value} {a : Act}
    (h : ∀ w, E w0 w → (∀ j, j < k → R j (vs j) w) → (∀ i j b, i < k → j < k → i ≠ j → O i (vs i) b → ¬ O j (vs j) b) → T a w) : Fct.walk E P md ops w0 R O T [] k vs a := h

/-- What is told twice, from the end. -/
def twice (xs : List Tm) : List Tm := xs.reverse.flatMap fun x => [x, x]
theorem twice_mem (xs : List Tm) (t : Tm) : t ∈ twice xs ↔ t ∈ xs := by
  unfold twice
  rw [List.mem_flatMap]
  constructor
  · rintro ⟨a, ha, h⟩; simp at h; subst h; simpa using ha
  · intro h; exact ⟨t, by simpa using h, by simp⟩
theorem twice_length (xs : List Tm) : (twice xs).length = 2 * xs.length := by
  unfold twice
  induction xs with
  | nil => rfl
  | cons x xs ih => simp [List.flatMap_append] at ih ⊢; omega
theorem twice_step {xs : List Tm} {k : Nat} {x : Tm} (h : xs[k]? = some x) : twice (xs.drop k) = twice (xs.drop (k + 1)) ++ [x, x] := by
  obtain ⟨hk, hx⟩ := List.getElem?_eq_some_iff.1 h
  rw [List.drop_eq_getElem_cons hk, hx]
  unfold twice
  simp [List.flatMap_append]
theorem front_twice (xs : List Tm) : frontV (twice xs) = frontV xs := front_same fun t => twice_mem xs t


/-- A copy that is of the call's own, then its front. -/
def LeastPre (w : World) (p : Nat) (t0 t1 t2 : Int) (xs : List Tm) (s5 : Value) (wc : World) : Prop :=
  ∃ (Af : Option Addr) (cf : Nat), s5 = .slice Af (frontV xs).length cf ∧ Hid (wc.ownsRow w.heap.size 24 3 (.slice Af (frontV xs).length cf) (frontV xs).length ((frontV xs).flatMap tmCells)) ∧ Blk wc p #[.int .u64 t0, .int .u64 t1, .int .u64 t2] 24 ∧ Below w.heap.size w wc

/-- What the operations of the drawn region come up with. -/
def r27 (ao : Option Addr) (cv bl ol n c k : Nat) (xa xb xc : Int) (j : Nat) (v : Value) (W : World) : Prop :=
  match j with
  | 0 => v = .slice ao (2 * (n - (k + 1))) cv
  | 1 => v = .slice (some ⟨bl, ol, none⟩) n c
  | 2 => v = .int .i64 k
  | 3 => v = .pointer (some ⟨bl, ol + k * 3, none⟩)
  | 4 => v = .agg #[.int .u64 xa, .int .u64 xb, .int .u64 xc]
  | 5 => v = .slice (some ⟨bl, ol, none⟩) n c
  | 6 => v = .int .i64 k
  | 7 => v = .pointer (some ⟨bl, ol + k * 3, none⟩)
  | 8 => v = .agg #[.int .u64 xa, .int .u64 xb, .int .u64 xc]
  | _ => ∃ q, v = .slice (some ⟨q, 0, none⟩) 2 2 ∧ Blk W q #[.int .u64 xa, .int .u64 xb, .int .u64 xc, .int .u64 xa, .int .u64 xb, .int .u64 xc] 24
theorem r27_stands {ao : Option Addr} {cv bl ol n c k : Nat} {xa xb xc : Int} {j : Nat} {v : Value} {W W' : World} (h : r27 ao cv bl ol n c k xa xb xc j v W) (hb : Below W.heap.size W W') : r27 ao cv bl ol n c k xa xb xc j v W' := by
  match j with
  | 0 => exact h
  | 1 => exact h
  | 2 => exact h
  | 3 => exact h
  | 4 => exact h
  | 5 => exact h
  | 6 => exact h
  | 7 => exact h
  | 8 => exact h
  | (j + 9) => obtain ⟨q, e, h1⟩ := h; exact ⟨q, e, h1.later hb⟩
set_option maxRecDepth 60000 in
theorem bs27 {ao : Option Addr} {cv bl ol n c k : Nat} (A : Act) (W : World) (xa xb xc : Int) (e1 : A.tmps.getD 97 undef = .agg #[.int .u64 xa, .int .u64 xb, .int .u64 xc]) (e2 : A.tmps.getD 101 undef = .agg #[.int .u64 xa, .int .u64 xb, .int .u64 xc]) (ps : String) (af : Array Edge) :
   Fct.opVal (fun a b => Below a.heap.size a b) Tryd.prog { dst := some 102, op := .buildSlice 36 2 #[(0, .tmp 97), (1, .tmp 101)], type := 36, pos := ps, after := af, guard := none } A W (r27 ao cv bl ol n c k xa xb xc 9) (fun _ _ => False) := by
  unfold Fct.opVal Oper.wp
  simp only [execOp, Act.eval, List.map_toArray, List.map_cons, List.map_nil]
  rw [e1, e2]
  clear e1 e2
  go_simp
  exact ⟨_, rfl, Bel.alloc' (Below.refl _ _) _, ⟨_, rfl, Blk.new _ _ _⟩⟩
/-- What the operations of the last drawn region come up with. -/
def r28 (lv fv bv tv : Value) (ob : Bool) (fr : List Tm) (j : Nat) (v : Value) (W : World) : Prop :=
  match j with
  | 0 => v = lv
  | 1 => v = tv
  | 2 => v = .bool ob
  | 3 => v = fv
  | 4 => v = tv
  | 5 => v = .bool ob
  | 6 => v = .bool true
  | 7 => v = .bool true
  | 8 => v = bv
  | 9 => ∃ A c S, v = .slice A fr.length c ∧ Rd tmR W S A fr.length c fr
  | 10 => v = fv
  | 11 => v = .bool true
  | 12 => v = .bool true
  | 13 => v = .bool true
  | 14 => v = fv
  | 15 => ∃ A c S, v = .slice A fr.length c ∧ Rd tmR W S A fr.length c fr
  | 16 => v = fv
  | 17 => v = .bool true
  | _ => v = .bool true
theorem r28_stands {lv fv bv tv : Value} {ob : Bool} {fr : List Tm} {j : Nat} {v : Value} {W W' : World} (h : r28 lv fv bv tv ob fr j v W) (hb : Below W.heap.size W W') : r28 lv fv bv tv ob fr j v W' := by
  match j with
  | 0 | 1 | 2 | 3 | 4 | 5 | 6 | 7 | 8 | 10 | 11 | 12 | 13 | 14 | 16 | 17 => exact h
  | 9 => obtain ⟨A, c, S, e, h1⟩ := h; exact ⟨A, c, S, e, h1.below hb⟩
  | 15 => obtain ⟨A, c, S, e, h1⟩ := h; exact ⟨A, c, S, e, h1.below hb⟩
  | (j + 18) => exact h
theorem r28_guard {lv fv bv tv : Value} {ob : Bool} {fr : List Tm} {j : Nat} {b : Bool} {v : Value} {W : World} (hg : (if j = 7 ∨ j = 13 then some true else none) = some b) (h : r28 lv fv bv tv ob fr j v W) : v = .bool b := by
  by_cases hj : j = 7 ∨ j = 13
  · rw [if_pos hj] at hg
    injection hg with hg
    subst hg
    rcases hj with rfl | rfl
    · exact h
    · exact h
  · rw [if_neg hj] at hg; cases hg
set_option maxHeartbeats 16000000 in
set_option maxRecDepth 60000 in
theorem least_at (A : Option Addr) (n c : Nat) (xs : List Tm) (t : Tm) (S : Nat → Prop) (w : World) (hg : Glob w) (h : Rd tmR w S A n c xs) (hnil : A = none → c = 0) (hbig : n ≤ 1048576) :
    Calls Tryd.prog 4 #[.slice A n c, tmV t] w fun e w' => e = .returned (.bool true) ∧ Below w.heap.size w w' := by
  have HG := Lib.hid hg
  have hguard := tm_guard
  have HL0 := Lib.hid h
  have hsm := h.small
  have hle := h.le
  have hln := Lib.hid h.length
  obtain ⟨css, hC, hcells⟩ := h.cells (by decide)
  have HC := Lib.hid hC
  have A0 := Lib.hid hcells
  have HN := Lib.hid hnil
  obtain ⟨i0, hi, hz0, hz1, hz2⟩ := info_parts Tryd.info_tm
  clear hg h hC hcells hnil
  obtain ⟨t0, t1, t2⟩ := t
  simp only [tmV]
  go_enter Tryd.func4, Tryd.ntmps4
  go_upto_region 3 with (go_at_call 11; refine (taken_at _ (HG.out.below (by (repeat first | exact Below.refl _ _ | assumption | refine Bel.alloc' ?_ _ | refine Bel.drewN ?_ _ | refine Below.drew ?_ | refine Bel.step' ?_ (by assumption))))).mono ?_; rintro e w1 ⟨rfl, hb1⟩)
  have hP1 := (Blk.new w #[.int .u64 t0, .int .u64 t1, .int .u64 t2] 24).later hb1
  have hw1 : Below w.heap.size w w1 := Bel.step' (by (repeat first | exact Below.refl _ _ | assumption | refine Bel.alloc' ?_ _ | refine Bel.drewN ?_ _ | refine Below.drew ?_ | refine Bel.step' ?_ (by assumption))) hb1
  have hp1 := hP1.lt
  go_cut [5] (fun s5 wc => LeastPre w w.heap.size t0 t1 t2 xs s5 wc)
  case first => as_aux_lemma =>
    cases A with
    | none =>
      obtain rfl : c = 0 := HN.out rfl
      obtain rfl : n = 0 := by omega
      have hxs : xs = [] := List.eq_nil_of_length_eq_zero hln.out
      subst hxs
      go_wp2_with (first | (at_builtin; refine wpList_append_own_none rfl _ _ 36 rfl w1.heap.size 24 i0 3 Tryd.underlying36 hi _ _ _ rfl (World.ownsRow_made w1 #[] 0 (Nat.le_refl _) (Nat.zero_le _) (by simp)) rfl ?_) | (go_at_call 12; refine (front_at _ 0 0 [] _ _ (rd_blk (ts := []) (Blk.new _ _ _) (by decide) rfl) (by omega)).mono ?_; rintro e w3 ⟨Af, cf, rfl, hownf, hb3⟩))
      go_meet
      exact ⟨Af, cf, rfl, Lib.hid (own_base hownf (by have := hw1.size; simp; omega)), (hP1.alloc _).later hb3, Bel.step' (hw1.alloc hw1.size _) hb3⟩
    | some ad =>
      go_wp2_with (at_builtin; refine wpList_append_own _ rfl _ _ 36 rfl w1.heap.size 24 i0 (.agg #[.int .u64 0, .int .u64 0, .int .u64 0]) 3 24 Tryd.underlying36 hi hz0 hz1 hz2 rfl (by decide) _ _ _ rfl (World.ownsRow_made w1 #[] 0 (Nat.le_refl _) (Nat.zero_le _) (by simp)) ad n c css.flatten rfl ?qc1 ?qc2 ?qc3 ?qc4 ?qc5 ?qc6 ?_)
      case qc1 => rw [flatten_length 3 css HC.out.sz, HC.out.len, hln.out]
      case qc2 =>
        intro j u hj
        have h0 := A0.out ad rfl j u hj
        have h1 := World.block_lt_of_cell? _ _ h0
        rw [((hw1.alloc hw1.size _).cell (p := ad.add j) h1)]
        exact h0
      case qc3 => exact HC.out.one tm_one
      case qc4 => unfold maxLen; omega
      case qc5 => omega
      case qc6 => simp
      intro v' w2 hown2 hgrow2 hnil2
      rw [cells_flat HC.out] at hown2
      have hown2 : w2.ownsRow w1.heap.size 24 3 v' n (xs.flatMap tmCells) := by simpa using hown2
      obtain ⟨A2, c2, rfl, hrd2⟩ := own_rd (enc := tmCells) (hl := fun _ => rfl) (xs := xs) (by rw [hln.out]; exact hown2)
      rw [hln.out] at hrd2 hown2 ⊢
      have hb2 : Below w.heap.size w w2 := (hw1.alloc hw1.size _).grown hgrow2 (by have := hw1.size; simp; omega) (fun q hq => by simp [Value.ownBlock] at hq; have := hw1.size; omega)
      have hP2 := (hP1.alloc (.cells #[] 24)).grown hgrow2 (by intro hq; simp [Value.ownBlock] at hq; omega)
      go_wp2_with (go_at_call 12; refine (front_at _ n c2 xs _ _ hrd2 (by omega)).mono ?_; rintro e w3 ⟨Af, cf, rfl, hownf, hb3⟩)
      go_meet
      exact ⟨Af, cf, rfl, Lib.hid (own_base hownf hb2.size), hP2.later hb3, Bel.step' hb2 hb3⟩
  case rest => as_aux_lemma =>
    obtain ⟨Af, cf, rfl, hownf, hP, hbw⟩ := hcut
    obtain ⟨Af', cf', ef, hrf⟩ := own_rd (enc := tmCells) (hl := fun _ => rfl) (xs := frontV xs) hownf.out
    injection ef with ef _ ef2
    subst ef; subst ef2
    have hsmf := hrf.small
    have hlef := hrf.le
    have HF := Lib.hid hrf
    have HL := Lib.hid (HL0.out.below hbw)
    have HP := Lib.hid hP
    have HBW := Lib.hid hbw
    have hmn : Hid ((frontV xs).length ≤ n) := Lib.hid (by have := front_length xs; rw [hln.out] at this; exact this)
    have hm20 : (frontV xs).length ≤ 1048576 := by have := hmn.out; omega
    have hFm : Hid (∀ y, y ∈ frontV xs → decide (y ∈ xs.take n) = true) := Lib.hid fun y hy => decide_eq_true (by rw [List.take_of_length_le (by rw [hln.out]; exact Nat.le_refl _)]; exact front_sub hy)
    have hFa : Hid (∀ i j x y, (frontV xs)[i]? = some x → (frontV xs)[j]? = some y → i ≠ j → aheadB x y = false) := Lib.hid fun i j x y h1 h2 h3 => front_apart h1 h2 h3
    have hFr : Hid (∀ i x y, (frontV xs)[i]? = some x → (frontV xs)[i + 1]? = some y → cmpV x y < 0) := Lib.hid fun i x y h1 h2 => front_rises h1 h2
    have hFo : Hid (∀ x, x ∈ xs → openV (frontV xs) x = true) := Lib.hid fun x hx => front_cov hx
    have hFe : Hid (∀ x, openV xs x = openV (frontV xs) x) := Lib.hid fun x => (open_front xs x).symm
    have hF2 : Hid (frontV (twice xs) = frontV xs) := Lib.hid (front_twice xs)
    have hF3 : Hid (frontV (frontV xs) = frontV xs) := Lib.hid (front_again xs)
    clear hownf hrf hP hbw A0 HC HN HL0 hP1 hw1 hb1 hp1
    generalize frontV xs = fs at *
    go_wp2
    go_loopw [6] (fun v6 wr => ∃ i : Nat, i ≤ fs.length ∧ v6 = .int .i64 i ∧ Below wc.heap.size wc wr) (fun v6 _ => fs.length - (intOf v6).toNat)
    case atStart => exact ⟨0, by omega, rfl, Below.refl _ _⟩
    case round =>
      obtain ⟨i, hi', rfl, hbel⟩ := hrel
      have i0' : 0 ≤ (i : Int) := by omega
      by_cases hlt : i < fs.length
      · have il : (i : Int) < fs.length := by omega
        obtain ⟨bf, of, y, rfl, hy, _⟩ := HF.out.cells3 hbel i hlt
        have HY := Lib.hid hy
        clear hy
        obtain ⟨y0, y1, y2⟩ := y
        go_wp2
        go_loopw [7, 8] (fun v7 v8 wr => ∃ k : Nat, k ≤ n ∧ v8 = .int .i64 k ∧ v7 = .bool (decide ((⟨y0, y1, y2⟩ : Tm) ∈ xs.take k)) ∧ Below wc.heap.size wc wr) (fun _ v8 _ => n - (intOf v8).toNat)
        case atStart => exact ⟨0, by omega, rfl, by simp, hbel⟩
        case round =>
          obtain ⟨k, hk, rfl, rfl, hb2⟩ := hrel
          have k0 : 0 ≤ (k : Int) := by omega
          by_cases hkn : k < n
          · have kl : (k : Int) < n := by omega
            obtain ⟨bl, ol, x, rfl, hx, x0, x1, x2, _⟩ := HL.out.cells3 hb2 k hkn
            obtain ⟨_, _, y', ey, hy', e0, e1, e2, _⟩ := HF.out.cells3 hb2 i hlt
            injection ey with ey; injection ey with ey1 ey2
            subst ey1; subst ey2
            obtain rfl : y' = ⟨y0, y1, y2⟩ := Option.some.inj (hy'.symm.trans HY.out)
            have he := fun W => tm_eql x ⟨y0, y1, y2⟩ W
            have hmem : decide ((⟨y0, y1, y2⟩ : Tm) ∈ xs.take (k + 1)) = (decide ((⟨y0, y1, y2⟩ : Tm) ∈ xs.take k) || decide (x = ⟨y0, y1, y2⟩)) := by
              rw [List.take_add_one, hx]
              by_cases h1 : (⟨y0, y1, y2⟩ : Tm) ∈ xs.take k
              · simp [h1]
              · by_cases h2 : x = ⟨y0, y1, y2⟩
                · simp [h2]
                · simp [h1, h2, Ne.symm h2]
            have HM := Lib.hid hmem
            clear hmem hx hy'
            obtain ⟨xa, xb, xc⟩ := x
            simp only [tmV] at he
            cases hf : decide ((⟨y0, y1, y2⟩ : Tm) ∈ xs.take k) with
            | true =>
              rw [hf] at HM
              go_wp2
              go_quiet (fail)
              go_wp2
              exact ⟨⟨k + 1, by omega, rfl, by rw [HM.out]; rfl, Bel.drewN hb2 _⟩, by simp [intOf]; omega⟩
            | false =>
              rw [hf] at HM
              cases hq : decide ((⟨xa, xb, xc⟩ : Tm) = ⟨y0, y1, y2⟩) with
              | true =>
                rw [hq] at HM he
                clear hq hf
                go_wp2
                go_quiet (fail)
                go_wp2
                exact ⟨⟨k + 1, by omega, rfl, by rw [HM.out]; rfl, Bel.drewN hb2 _⟩, by simp [intOf]; omega⟩
              | false =>
                rw [hq] at HM he
                clear hq hf
                go_wp2
                go_quiet (fail)
                go_wp2
                exact ⟨⟨k + 1, by omega, rfl, by rw [HM.out]; rfl, Bel.drewN hb2 _⟩, by simp [intOf]; omega⟩
          · obtain rfl : k = n := by omega
            have kl : ¬ (k : Int) < k := by omega
            rw [hFm.out _ (List.mem_of_getElem? HY.out)]
            go_wp2
            go_loopw [9] (fun v9 wr => ∃ k : Nat, k ≤ fs.length ∧ v9 = .int .i64 k ∧ Below wc.heap.size wc wr) (fun v9 _ => fs.length - (intOf v9).toNat)
            case atStart => exact ⟨0, by omega, rfl, hb2⟩
            case round =>
              obtain ⟨j, hj, rfl, hb3⟩ := hrel
              clear hb2
              have j0 : 0 ≤ (j : Int) := by omega
              by_cases hjn : j < fs.length
              · have jl : (j : Int) < fs.length := by omega
                obtain ⟨_, _, z, ey, hz, z0, z1, z2, _⟩ := HF.out.cells3 hb3 j hjn
                injection ey with ey; injection ey with ey1 ey2
                subst ey1; subst ey2
                obtain ⟨_, _, y', ey, hy', e0, e1, e2, _⟩ := HF.out.cells3 hb3 i hlt
                injection ey with ey; injection ey with ey1 ey2
                subst ey1; subst ey2
                obtain rfl : y' = ⟨y0, y1, y2⟩ := Option.some.inj (hy'.symm.trans HY.out)
                by_cases hji : j = i
                · subst hji
                  have tji : ((j : Int) != (j : Int)) = false := by simp
                  clear hz hy'
                  go_wp2
                  go_quiet (fail)
                  go_wp2
                  exact ⟨⟨j + 1, by omega, rfl, Bel.drewN hb3 _⟩, by simp [intOf]; omega⟩
                · have tji : ((j : Int) != (i : Int)) = true := by simp; omega
                  have hah := hFa.out _ _ _ _ hz HY.out hji
                  have CA := fun W => ahead_at z ⟨y0, y1, y2⟩ W
                  rw [hah] at CA
                  obtain ⟨za, zb, zc⟩ := z
                  simp only [tmV] at CA
                  clear hz hy' hah hji
                  have Q := Lib.hid (quiet_call (X := wr) (fun W _ => CA W))
                  clear CA
                  replace z0 := cell_regrown z0
                  replace z1 := cell_regrown z1
                  replace z2 := cell_regrown z2
                  replace e0 := cell_regrown e0
                  replace e1 := cell_regrown e1
                  replace e2 := cell_regrown e2
                  go_wp2
                  refine wp_region_quiet_below (by kernel_rfl) (by kernel_rfl) ?_; (repeat (go_big_quiet_step (exact Q.out _ _))); refine wpQuiet_nil ?_; intro _ hw'; obtain ⟨⟨dq, osq⟩, hw''⟩ := hw'; subst hw''
                  have hb5 := below_regrown wr dq osq
                  clear z0 z1 z2 e0 e1 e2 Q
                  generalize grow (redrawn wr dq) osq = w5 at *
                  go_wp2
                  exact ⟨⟨j + 1, by omega, rfl, hb3.trans (hb5.mono hb3.size)⟩, by simp [intOf]; omega⟩
              · obtain rfl : j = fs.length := by omega
                have jl : ¬ (fs.length : Int) < fs.length := by omega
                obtain ⟨_, _, y', ey, hy', e0, e1, e2, _⟩ := HF.out.cells3 hb3 i hlt
                injection ey with ey; injection ey with ey1 ey2
                subst ey1; subst ey2
                obtain rfl : y' = ⟨y0, y1, y2⟩ := Option.some.inj (hy'.symm.trans HY.out)
                clear hy'
                rcases i with _ | i
                · go_wp2
                  go_quiet (fail)
                  go_wp2
                  exact ⟨⟨1, by omega, rfl, Bel.drewN hb3 _⟩, by simp [intOf]; omega⟩
                · obtain ⟨_, _, z, ey, hz, z0, z1, z2, _⟩ := HF.out.cells3 hb3 i (by omega)
                  injection ey with ey; injection ey with ey1 ey2
                  subst ey1; subst ey2
                  have hcm := hFr.out _ _ _ hz HY.out
                  have CA := fun W => compare_at z ⟨y0, y1, y2⟩ W
                  generalize cmpV z ⟨y0, y1, y2⟩ = cv at hcm CA
                  have tcv : decide (0 ≤ cv) = false := decide_eq_false (by omega)
                  obtain ⟨za, zb, zc⟩ := z
                  simp only [tmV] at CA
                  have ei : ((i + 1 : Nat) : Int) - 1 = (i : Int) := by omega
                  have gi : (0 : Int) < ((i + 1 : Nat) : Int) := by omega
                  clear hz hcm
                  have Q := Lib.hid (quiet_call (X := wr) (fun W _ => CA W))
                  clear CA
                  replace z0 := cell_regrown z0
                  replace z1 := cell_regrown z1
                  replace z2 := cell_regrown z2
                  replace e0 := cell_regrown e0
                  replace e1 := cell_regrown e1
                  replace e2 := cell_regrown e2
                  go_wp2
                  refine wp_region_quiet_below (by kernel_rfl) (by kernel_rfl) ?_; (repeat (go_big_quiet_step (exact Q.out _ _))); refine wpQuiet_nil ?_; intro _ hw'; obtain ⟨⟨dq, osq⟩, hw''⟩ := hw'; subst hw''
                  have hb5 := below_regrown wr dq osq
                  clear z0 z1 z2 e0 e1 e2 Q
                  generalize grow (redrawn wr dq) osq = w5 at *
                  go_wp2
                  exact ⟨⟨i + 1 + 1, by omega, by simp, hb3.trans (hb5.mono hb3.size)⟩, by simp [intOf]; omega⟩
      · obtain rfl : i = fs.length := by omega
        have il : ¬ (fs.length : Int) < fs.length := by omega
        go_wp2
        go_loopw [10, 11] (fun v10 v11 wr2 => ∃ (k : Nat) (ao : Option Addr) (cv : Nat), k ≤ n ∧ v11 = .int .i64 ((k : Int) - 1) ∧ v10 = .slice ao (2 * (n - k)) cv ∧ Hid (wr2.ownsRow wc.heap.size 24 3 (.slice ao (2 * (n - k)) cv) (2 * (n - k)) ((twice (xs.drop k)).flatMap tmCells)) ∧ Below wc.heap.size wc wr2) (fun _ v11 _ => (intOf v11 + 1).toNat)
        case atStart =>
          refine ⟨n, none, 0, Nat.le_refl _, rfl, by simp, Lib.hid ?_, hbel⟩
          rw [List.drop_of_length_le (by rw [hln.out]; exact Nat.le_refl _), Nat.sub_self]
          exact World.ownsRow_nil _ _ _ _
        case round =>
          obtain ⟨k, ao, cv, hk, rfl, rfl, HO, hb2⟩ := hrel
          rcases k with _ | k
          · have hl2 : (twice xs).length = 2 * n := by rw [twice_length, hln.out]
            have HO2 : wr.ownsRow wc.heap.size 24 3 (.slice ao (twice xs).length cv) (twice xs).length ((twice xs).flatMap tmCells) := by
              have h := HO.out
              rw [List.drop_zero, Nat.sub_zero] at h
              rw [hl2]; exact h
            obtain ⟨Ab, cb, eb, hrdb⟩ := own_rd (enc := tmCells) (hl := fun _ => rfl) (xs := twice xs) HO2
            injection eb with eb1 eb2 eb3
            subst eb1; subst eb3
            have CF1 := Lib.hid (fun W (hW : Below wr.heap.size wr W) => by
              have h := front_at ao (twice xs).length cv (twice xs) _ W (hrdb.below hW) (by rw [hl2]; omega)
              rw [hF2.out, hl2] at h
              exact h)
            have CF2 := Lib.hid (fun W (hW : Below wr.heap.size wr W) => by
              have h := front_at Af fs.length cf fs _ W (HF.out.below (hb2.trans (hW.mono hb2.size))) (by omega)
              rw [hF3.out] at h
              exact h)
            have CO1 := fun W (hW : Below wr.heap.size wr W) => open_at A n c xs ⟨t0, t1, t2⟩ S W (HL.out.below (hb2.trans (hW.mono hb2.size)))
            have CO2 := fun W (hW : Below wr.heap.size wr W) => open_at Af fs.length cf fs ⟨t0, t1, t2⟩ _ W (HF.out.below (hb2.trans (hW.mono hb2.size)))
            rw [← hFe.out] at CO2
            have CT := Lib.hid (fun W A' c' S' (hW : Below wr.heap.size wr W) hr => by
              have h := times_at A' fs.length c' fs Af fs.length cf fs S' _ W hr (HF.out.below (hb2.trans (hW.mono hb2.size)))
              rw [decide_eq_true rfl] at h
              exact h)
            generalize openV xs ⟨t0, t1, t2⟩ = ob at CO1 CO2
            simp only [tmV] at CO1 CO2
            have HO1 := Lib.hid CO1
            have HO2' := Lib.hid CO2
            have HPr := Lib.hid (HP.out.later hb2)
            have hwr : Below w.heap.size w wr := HBW.out.trans (hb2.mono HBW.out.size)
            clear CO1 CO2 hrdb HO2 HO HL HF hFm hFa hFr hFo hFe hF2 hF3 hmn HP HBW HG
            go_upto_region 28 with fail
            refine wp_region_facts5 19 (r28 (.slice A n c) (.slice Af fs.length cf) (.slice ao (2 * n) cv) (.agg #[.int .u64 t0, .int .u64 t1, .int .u64 t2]) ob fs) (fun j => if j = 7 ∨ j = 13 then some true else none) (by kernel_rfl) (by kernel_rfl) (by kernel_rfl) (fun j b v W hg hr => r28_guard hg hr) (fun j v W W' h hb => r28_stands h hb) ?op ?en
            case op =>
              simp only [List.take_succ_cons, List.take_zero, Fct.obl5]
              refine ⟨fun us W hW hR A' hf => ?_, fun us W hW hR A' hf => ?_, fun us W hW hR A' hf => ?_, fun us W hW hR A' hf => ?_, fun us W hW hR A' hf => ?_, fun us W hW hR A' hf => ?_, fun us W hW hR A' hf => ?_, fun us W hW hR A' hf => ?_, fun us W hW hR A' hf => ?_, fun us W hW hR A' hf => ?_, fun us W hW hR A' hf => ?_, fun us W hW hR A' hf => ?_, fun us W hW hR A' hf => ?_, fun us W hW hR A' hf => ?_, fun us W hW hR A' hf => ?_, fun us W hW hR A' hf => ?_, fun us W hW hR A' hf => ?_, fun us W hW hR A' hf => ?_, fun us W hW hR A' hf => ?_, trivial⟩
              case refine_1 => as_aux_lemma => (have e1 : A'.tmps.getD 0 undef = .slice A n c := hf 0; clear hf hR; unfold Fct.opOnly; go_simp; exact ⟨_, rfl, Below.refl _ _, rfl⟩)
              case refine_2 => as_aux_lemma => (have e1 : A'.tmps.getD 3 undef = .pointer (some ⟨w.heap.size, 0, none⟩) := hf 3; have hB := HPr.out.later hW; have y0 := hB.cell 0 _ rfl; have y1 := hB.cell 1 _ rfl; have y2 := hB.cell 2 _ rfl; clear hf hR hB; unfold Fct.opOnly; go_simp; exact ⟨_, rfl, Below.refl _ _, rfl⟩)
              case refine_3 => as_aux_lemma => (have h1 : us 0 = .slice A n c := hR 0 (by kernel_rfl); have h2 : us 1 = .agg #[.int .u64 t0, .int .u64 t1, .int .u64 t2] := hR 1 (by kernel_rfl); have e1 : A'.tmps.getD 104 undef = .slice A n c := (hf 104).trans h1; have e2 : A'.tmps.getD 105 undef = .agg #[.int .u64 t0, .int .u64 t1, .int .u64 t2] := (hf 105).trans h2; clear hf hR h1 h2; unfold Fct.opOnly; go_simp; refine ((HO1).out W hW).mono ?_; rintro e w1 ⟨rfl, hb⟩; exact ⟨_, rfl, hb, rfl⟩)
              case refine_4 => as_aux_lemma => (have e1 : A'.tmps.getD 5 undef = .slice Af fs.length cf := hf 5; clear hf hR; unfold Fct.opOnly; go_simp; exact ⟨_, rfl, Below.refl _ _, rfl⟩)
              case refine_5 => as_aux_lemma => (have e1 : A'.tmps.getD 3 undef = .pointer (some ⟨w.heap.size, 0, none⟩) := hf 3; have hB := HPr.out.later hW; have y0 := hB.cell 0 _ rfl; have y1 := hB.cell 1 _ rfl; have y2 := hB.cell 2 _ rfl; clear hf hR hB; unfold Fct.opOnly; go_simp; exact ⟨_, rfl, Below.refl _ _, rfl⟩)
              case refine_6 => as_aux_lemma => (have h1 : us 3 = .slice Af fs.length cf := hR 3 (by kernel_rfl); have h2 : us 4 = .agg #[.int .u64 t0, .int .u64 t1, .int .u64 t2] := hR 4 (by kernel_rfl); have e1 : A'.tmps.getD 107 undef = .slice Af fs.length cf := (hf 107).trans h1; have e2 : A'.tmps.getD 108 undef = .agg #[.int .u64 t0, .int .u64 t1, .int .u64 t2] := (hf 108).trans h2; clear hf hR h1 h2; unfold Fct.opOnly; go_simp; refine ((HO2').out W hW).mono ?_; rintro e w1 ⟨rfl, hb⟩; exact ⟨_, rfl, hb, rfl⟩)
              case refine_7 => as_aux_lemma => (have h1 : us 2 = .bool ob := hR 2 (by kernel_rfl); have h2 : us 5 = .bool ob := hR 5 (by kernel_rfl); have e1 : A'.tmps.getD 106 undef = .bool ob := (hf 106).trans h1; have e2 : A'.tmps.getD 109 undef = .bool ob := (hf 109).trans h2; have eo : (ob == ob) = true := (by simp); clear hf hR h1 h2; unfold Fct.opOnly; go_simp; exact ⟨_, rfl, Below.refl _ _, rfl⟩)
              case refine_8 => as_aux_lemma => (have h1 : us 6 = .bool true := hR 6 (by kernel_rfl); have e1 : A'.tmps.getD 110 undef = .bool true := (hf 110).trans h1; clear hf hR h1; unfold Fct.opOnly; go_simp; exact ⟨_, rfl, Below.refl _ _, rfl⟩)
              case refine_9 => as_aux_lemma => (have e1 : A'.tmps.getD 10 undef = .slice ao (2 * n) cv := hf 10; clear hf hR; unfold Fct.opOnly; go_simp; exact ⟨_, rfl, Below.refl _ _, rfl⟩)
              case refine_10 => as_aux_lemma => (have h1 : us 8 = .slice ao (2 * n) cv := hR 8 (by kernel_rfl); have e1 : A'.tmps.getD 112 undef = .slice ao (2 * n) cv := (hf 112).trans h1; clear hf hR h1; unfold Fct.opOnly; go_simp; refine ((CF1).out W hW).mono ?_; rintro e w1 ⟨A1, c1, rfl, hown, hb⟩; obtain ⟨A2, c2, e2, hrd⟩ := own_rd (enc := tmCells) (hl := fun _ => rfl) (xs := fs) hown; injection e2 with e3 e4 e5; subst e3; subst e5; exact ⟨_, rfl, hb, ⟨_, _, _, rfl, hrd⟩⟩)
              case refine_11 => as_aux_lemma => (have e1 : A'.tmps.getD 5 undef = .slice Af fs.length cf := hf 5; clear hf hR; unfold Fct.opOnly; go_simp; exact ⟨_, rfl, Below.refl _ _, rfl⟩)
              case refine_12 => as_aux_lemma => (have h1 : ∃ A c S, us 9 = .slice A fs.length c ∧ Rd tmR W S A fs.length c fs := hR 9 (by kernel_rfl); have h2 : us 10 = .slice Af fs.length cf := hR 10 (by kernel_rfl); obtain ⟨A1, c1, S1, h1, hr1⟩ := h1; have e1 : A'.tmps.getD 113 undef = .slice A1 fs.length c1 := (hf 113).trans h1; have e2 : A'.tmps.getD 114 undef = .slice Af fs.length cf := (hf 114).trans h2; have HC1 := Lib.hid (CT.out W A1 c1 S1 hW hr1); clear hf hR h1 h2 hr1; unfold Fct.opOnly; go_simp; refine HC1.out.mono ?_; rintro e w1 ⟨rfl, hb⟩; exact ⟨_, rfl, hb, rfl⟩)
              case refine_13 => as_aux_lemma => (have h1 : us 7 = .bool true := hR 7 (by kernel_rfl); have h2 : us 11 = .bool true := hR 11 (by kernel_rfl); have e1 : A'.tmps.getD 111 undef = .bool true := (hf 111).trans h1; have e2 : A'.tmps.getD 115 undef = .bool true := (hf 115).trans h2; have eo : (ob == ob) = true := (by simp); clear hf hR h1 h2; unfold Fct.opOnly; go_simp; exact ⟨_, rfl, Below.refl _ _, rfl⟩)
              case refine_14 => as_aux_lemma => (have h1 : us 12 = .bool true := hR 12 (by kernel_rfl); have e1 : A'.tmps.getD 116 undef = .bool true := (hf 116).trans h1; clear hf hR h1; unfold Fct.opOnly; go_simp; exact ⟨_, rfl, Below.refl _ _, rfl⟩)
              case refine_15 => as_aux_lemma => (have e1 : A'.tmps.getD 5 undef = .slice Af fs.length cf := hf 5; clear hf hR; unfold Fct.opOnly; go_simp; exact ⟨_, rfl, Below.refl _ _, rfl⟩)
              case refine_16 => as_aux_lemma => (have h1 : us 14 = .slice Af fs.length cf := hR 14 (by kernel_rfl); have e1 : A'.tmps.getD 118 undef = .slice Af fs.length cf := (hf 118).trans h1; clear hf hR h1; unfold Fct.opOnly; go_simp; refine ((CF2).out W hW).mono ?_; rintro e w1 ⟨A1, c1, rfl, hown, hb⟩; obtain ⟨A2, c2, e2, hrd⟩ := own_rd (enc := tmCells) (hl := fun _ => rfl) (xs := fs) hown; injection e2 with e3 e4 e5; subst e3; subst e5; exact ⟨_, rfl, hb, ⟨_, _, _, rfl, hrd⟩⟩)
              case refine_17 => as_aux_lemma => (have e1 : A'.tmps.getD 5 undef = .slice Af fs.length cf := hf 5; clear hf hR; unfold Fct.opOnly; go_simp; exact ⟨_, rfl, Below.refl _ _, rfl⟩)
              case refine_18 => as_aux_lemma => (have h1 : ∃ A c S, us 15 = .slice A fs.length c ∧ Rd tmR W S A fs.length c fs := hR 15 (by kernel_rfl); have h2 : us 16 = .slice Af fs.length cf := hR 16 (by kernel_rfl); obtain ⟨A1, c1, S1, h1, hr1⟩ := h1; have e1 : A'.tmps.getD 119 undef = .slice A1 fs.length c1 := (hf 119).trans h1; have e2 : A'.tmps.getD 120 undef = .slice Af fs.length cf := (hf 120).trans h2; have HC1 := Lib.hid (CT.out W A1 c1 S1 hW hr1); clear hf hR h1 h2 hr1; unfold Fct.opOnly; go_simp; refine HC1.out.mono ?_; rintro e w1 ⟨rfl, hb⟩; exact ⟨_, rfl, hb, rfl⟩)
              case refine_19 => as_aux_lemma => (have h1 : us 13 = .bool true := hR 13 (by kernel_rfl); have h2 : us 17 = .bool true := hR 17 (by kernel_rfl); have e1 : A'.tmps.getD 117 undef = .bool true := (hf 117).trans h1; have e2 : A'.tmps.getD 121 undef = .bool true := (hf 121).trans h2; have eo : (ob == ob) = true := (by simp); clear hf hR h1 h2; unfold Fct.opOnly; go_simp; exact ⟨_, rfl, Below.refl _ _, rfl⟩)
            case en =>
              intro us W hW hR
              as_aux_lemma =>
                have h18 : us 18 = .bool true := hR 18 (by omega)
                clear hR
                simp only [List.take_succ_cons, List.take_zero, List.drop_succ_cons, List.drop_zero, Fct.fin, h18, Act.put, List.setIfInBounds_toArray, List.set_cons_zero, List.set_cons_succ]
                clear h18
                go_wp2_with fail
                go_ret
                exact ⟨rfl, Bel.step' hwr hW⟩
          · have ek : ((k + 1 : Nat) : Int) - 1 = (k : Int) := by omega
            rw [ek]
            have k0 : 0 ≤ (k : Int) := by omega
            have kl : (k : Int) < n := by omega
            obtain ⟨bl, ol, x, rfl, hx, x0, x1, x2, hbl⟩ := HL.out.cells3 hb2 k (by omega)
            have CO := fun W (hW : Below wr.heap.size wr W) => open_at _ _ _ fs x _ W (HF.out.below (hb2.trans (hW.mono hb2.size)))
            rw [hFo.out _ (List.mem_of_getElem? hx)] at CO
            have HT := Lib.hid (twice_step hx)
            clear hx
            obtain ⟨xa, xb, xc⟩ := x
            simp only [tmV] at CO
            have HCO := Lib.hid CO
            clear CO
            have hwr2 := hb2.size
            go_upto_region 27 with (go_at_call 15; refine (HCO.out _ (by (repeat first | exact Below.refl _ _ | assumption | refine Bel.alloc' ?_ _ | refine Bel.drewN ?_ _ | refine Below.drew ?_ | refine Bel.step' ?_ (by assumption)))).mono ?_; rintro e w4 ⟨rfl, hb4⟩)
            have hb4' : Below wr.heap.size wr w4 := Bel.step' (by (repeat first | exact Below.refl _ _ | assumption | refine Bel.alloc' ?_ _ | refine Bel.drewN ?_ _ | refine Below.drew ?_ | refine Bel.step' ?_ (by assumption))) hb4
            have hb5 : Below wc.heap.size wc w4 := hb2.trans (hb4'.mono hb2.size)
            have HO4 := Lib.hid (own_below HO.out hb4')
            have x0' : w4.cell? ⟨bl, ol + k * 3, none⟩ = _ := (hb4'.cell (p := ⟨bl, _, none⟩) (by show bl < wr.heap.size; omega)).trans x0
            have x1' : w4.cell? ⟨bl, ol + k * 3 + 1, none⟩ = _ := (hb4'.cell (p := ⟨bl, _, none⟩) (by show bl < wr.heap.size; omega)).trans x1
            have x2' : w4.cell? ⟨bl, ol + k * 3 + 2, none⟩ = _ := (hb4'.cell (p := ⟨bl, _, none⟩) (by show bl < wr.heap.size; omega)).trans x2
            have hbl4 : bl < w4.heap.size := by have := hb5.size; omega
            clear x0 x1 x2 hb4 HO
            clear HCO HP HBW hFm hFa hFr hFo hFe hF2 hF3 hmn HL HF HG hguard hbel hb2 hsmf hlef hm20 hln
            refine wp_region_facts2 10 (r27 ao cv bl ol n c k xa xb xc) (fun _ _ _ => False) (by kernel_rfl) (by kernel_rfl) ?st ?op ?en
            case st => exact fun j v W W' h hb => r27_stands h hb
            case op =>
              simp only [List.take_succ_cons, List.take_zero, Fct.obl]
              refine ⟨fun us W hW hR A hf => ?_, fun us W hW hR A hf => ?_, fun us W hW hR A hf => ?_, fun us W hW hR A hf => ?_, fun us W hW hR A hf => ?_, fun us W hW hR A hf => ?_, fun us W hW hR A hf => ?_, fun us W hW hR A hf => ?_, fun us W hW hR A hf => ?_, fun us W hW hR A hf => ?_, trivial⟩
              case refine_1 => as_aux_lemma =>
                have e1 : A.tmps.getD 10 undef = .slice ao (2 * (n - (k + 1))) cv := hf 10
                clear hf hR
                unfold Fct.opVal
                go_simp
                exact ⟨_, rfl, Below.refl _ _, rfl⟩
              case refine_2 => as_aux_lemma =>
                have e1 : A.tmps.getD 0 undef = .slice (some ⟨bl, ol, none⟩) n c := hf 0
                clear hf hR
                unfold Fct.opVal
                go_simp
                exact ⟨_, rfl, Below.refl _ _, rfl⟩
              case refine_3 => as_aux_lemma =>
                have e1 : A.tmps.getD 11 undef = .int .i64 k := hf 11
                clear hf hR
                unfold Fct.opVal
                go_simp
                exact ⟨_, rfl, Below.refl _ _, rfl⟩
              case refine_4 => as_aux_lemma => (have e1 : A.tmps.getD 94 undef = us 1 := hf 94; have e2 : A.tmps.getD 95 undef = us 2 := hf 95; have h1 : us 1 = .slice (some ⟨bl, ol, none⟩) n c := hR 1 (by kernel_rfl); have h2 : us 2 = .int .i64 k := hR 2 (by kernel_rfl); rw [h1] at e1; rw [h2] at e2; clear hf hR h1 h2; unfold Fct.opVal; go_simp; exact ⟨_, rfl, Below.refl _ _, rfl⟩)
              case refine_5 => as_aux_lemma => (have e1 : A.tmps.getD 96 undef = us 3 := hf 96; have h1 : us 3 = .pointer (some ⟨bl, ol + k * 3, none⟩) := hR 3 (by kernel_rfl); rw [h1] at e1; have y0 := (hW.cell (p := ⟨bl, ol + k * 3, none⟩) hbl4).trans x0'; have y1 := (hW.cell (p := ⟨bl, ol + k * 3 + 1, none⟩) hbl4).trans x1'; have y2 := (hW.cell (p := ⟨bl, ol + k * 3 + 2, none⟩) hbl4).trans x2'; clear hf hR h1; unfold Fct.opVal; go_simp; exact ⟨_, rfl, Below.refl _ _, rfl⟩)
              case refine_6 => as_aux_lemma =>
                have e1 : A.tmps.getD 0 undef = .slice (some ⟨bl, ol, none⟩) n c := hf 0
                clear hf hR
                unfold Fct.opVal
                go_simp
                exact ⟨_, rfl, Below.refl _ _, rfl⟩
              case refine_7 => as_aux_lemma =>
                have e1 : A.tmps.getD 11 undef = .int .i64 k := hf 11
                clear hf hR
                unfold Fct.opVal
                go_simp
                exact ⟨_, rfl, Below.refl _ _, rfl⟩
              case refine_8 => as_aux_lemma => (have e1 : A.tmps.getD 98 undef = us 5 := hf 98; have e2 : A.tmps.getD 99 undef = us 6 := hf 99; have h1 : us 5 = .slice (some ⟨bl, ol, none⟩) n c := hR 5 (by kernel_rfl); have h2 : us 6 = .int .i64 k := hR 6 (by kernel_rfl); rw [h1] at e1; rw [h2] at e2; clear hf hR h1 h2; unfold Fct.opVal; go_simp; exact ⟨_, rfl, Below.refl _ _, rfl⟩)
              case refine_9 => as_aux_lemma => (have e1 : A.tmps.getD 100 undef = us 7 := hf 100; have h1 : us 7 = .pointer (some ⟨bl, ol + k * 3, none⟩) := hR 7 (by kernel_rfl); rw [h1] at e1; have y0 := (hW.cell (p := ⟨bl, ol + k * 3, none⟩) hbl4).trans x0'; have y1 := (hW.cell (p := ⟨bl, ol + k * 3 + 1, none⟩) hbl4).trans x1'; have y2 := (hW.cell (p := ⟨bl, ol + k * 3 + 2, none⟩) hbl4).trans x2'; clear hf hR h1; unfold Fct.opVal; go_simp; exact ⟨_, rfl, Below.refl _ _, rfl⟩)
              case refine_10 => as_aux_lemma =>
                have h1 : us 4 = .agg #[.int .u64 xa, .int .u64 xb, .int .u64 xc] := hR 4 (by kernel_rfl)
                have h2 : us 8 = .agg #[.int .u64 xa, .int .u64 xb, .int .u64 xc] := hR 8 (by kernel_rfl)
                exact bs27 A W xa xb xc ((hf 97).trans h1) ((hf 101).trans h2) _ _
            case en =>
              intro us W hW hR _
              as_aux_lemma =>
                have k0' : us 0 = _ := hR 0 (by omega)
                have k9 : ∃ q, us 9 = .slice (some ⟨q, 0, none⟩) 2 2 ∧ Blk W q #[.int .u64 xa, .int .u64 xb, .int .u64 xc, .int .u64 xa, .int .u64 xb, .int .u64 xc] 24 := hR 9 (by omega)
                obtain ⟨q, k9, hq⟩ := k9
                clear hR
                simp only [List.take_succ_cons, List.take_zero, List.drop_succ_cons, List.drop_zero, Fct.fin, k0', k9, Act.put, List.setIfInBounds_toArray, List.set_cons_zero, List.set_cons_succ]
                clear k0' k9
                have HOW := own_below HO4.out hW
                have hsz4 := hb4'.size
                have hszW := hW.size
                go_wp2_with (at_builtin; refine wpList_append_own _ rfl _ _ 36 rfl wc.heap.size 24 i0 (.agg #[.int .u64 0, .int .u64 0, .int .u64 0]) 3 24 Tryd.underlying36 hi hz0 hz1 hz2 rfl (by decide) _ _ _ rfl HOW ⟨q, 0, none⟩ 2 2 [.int .u64 xa, .int .u64 xb, .int .u64 xc, .int .u64 xa, .int .u64 xb, .int .u64 xc] rfl rfl ?qa1 ?qa2 ?qa3 ?qa4 ?qa5 ?_)
                case qa1 => intro j u hj; rw [Addr.add_lit]; exact hq.cell _ _ (by simpa using hj)
                case qa2 => intro u hu; simp at hu; rcases hu with rfl | rfl | rfl | rfl | rfl | rfl <;> rfl
                case qa3 => unfold maxLen; omega
                case qa4 => omega
                case qa5 => omega
                intro v' w6 hown' hgrow6 hnil6
                go_wp2
                have en : 2 * (n - (k + 1)) + 2 = 2 * (n - k) := by omega
                have hb6 : Below wc.heap.size wc w6 := (hb5.trans (hW.mono hb5.size)).grown hgrow6 (by omega) (fun z hz => by have := (HOW.lt z hz).1; omega)
                rw [en] at hown'
                obtain ⟨ao', cv', rfl⟩ := own_form hown'
                refine ⟨⟨k, ao', cv', by omega, rfl, rfl, Lib.hid ?_, hb6⟩, by simp [intOf]⟩
                rw [HT.out, List.flatMap_append]
                exact hown'
end Go.Proofs.YtiiegpklpmogmaaDoor
