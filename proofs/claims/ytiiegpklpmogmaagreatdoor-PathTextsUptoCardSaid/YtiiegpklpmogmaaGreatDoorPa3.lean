/- path.Least, walked. -/
import Derived.Test.YtiiegpklpmogmaaGreatDoorPa2
import Derived.Test.YtiiegpklpmogmaaGreatDoorPaPlain3
import Derived.Test.YtiiegpklpmogmaaGreatDoorSt15
set_option linter.unusedVariables false
set_option linter.unusedSimpArgs false
namespace Go.Proofs.YtiiegpklpmogmaaGreatDoor
open Go.RowKit Go.Sort Go.Shelf

set_option maxHeartbeats 1000000 in
theorem pleast1_at (q p : Tm) (bt : Nat) (w : World) (ht : Blk w bt (tmCells p).toArray 40) :
    Calls Tryz.prog 76 #[tmV q, .pointer (some ⟨bt, 0, none⟩)] w fun e w' => e = .returned (.bool (beatsB p q)) ∧ Below w.heap.size w w' := by
  have CA := Lib.hid (fun W => pahead_at q p W)
  have he := fun W => pt_neq q p W
  have hg := pt_guard
  have hv : beatsB p q = (!decide (q = p) && aheadB q p) := rfl
  rw [hv]
  clear hv
  generalize aheadB q p = v at CA ⊢
  generalize decide (q = p) = d at he ⊢
  obtain ⟨a, b, c⟩ := q
  obtain ⟨d0, f, g⟩ := p
  simp only [tmV, tmCells] at CA ht he ⊢
  have c0 := ht.cell 0 _ rfl
  have c1 := ht.cell 1 _ rfl
  have c2 := ht.cell 2 _ rfl
  have hlt := ht.lt
  clear ht
  cases d with
  | true =>
    go_enter Tryz.func76, Tryz.ntmps76
    go_wp2_with fail
    go_ret
    exact ⟨rfl, by (repeat first | exact Below.refl _ _ | assumption | refine Bel.alloc' ?_ _ | refine Bel.drewN ?_ _ | refine Below.drew ?_ | refine Bel.step' ?_ (by assumption))⟩
  | false =>
    go_enter Tryz.func76, Tryz.ntmps76
    go_wp2_with (go_at_call 35; refine (CA.out _).mono ?_; rintro e w1 ⟨rfl, hb1⟩)
    go_ret
    exact ⟨rfl, by (repeat first | exact Below.refl _ _ | assumption | refine Bel.alloc' ?_ _ | refine Bel.drewN ?_ _ | refine Below.drew ?_ | refine Bel.step' ?_ (by assumption))⟩

set_option maxHeartbeats 2000000 in
theorem pifn_at (A : Option Addr) (n c : Nat) (xs : List Tm) (t : Tm) (bt : Nat) (S : Nat → Prop) (w : World) (h : Rd tmR w S A n c xs) (ht : Blk w bt (tmCells t).toArray 40) :
    Calls Tryz.prog 94 #[.slice A n c, .func (.func 76) #[] #[.pointer (some ⟨bt, 0, none⟩)]] w fun e w' => (∃ i : Int, e = .returned (.int .i64 i) ∧ decide (0 ≤ i) = beatV xs t) ∧ Below w.heap.size w w' := by
  have HR := Lib.hid h
  have HT := Lib.hid ht
  have hsm := h.small
  have hle := h.le
  have hln := Lib.hid h.length
  clear h ht
  go_enter Tryz.func94, Tryz.ntmps94
  go_wp2
  go_loopw [8] (fun v8 wr => ∃ k : Nat, k ≤ n ∧ v8 = .int .i64 k ∧ Hid (∀ u ∈ xs.take k, beatsB t u = false) ∧ Below w.heap.size w wr) (fun v8 _ => n - (intOf v8).toNat)
  case atStart => exact ⟨0, by omega, rfl, by simp [Hid], by (repeat first | exact Below.refl _ _ | assumption | refine Bel.alloc' ?_ _ | refine Bel.drewN ?_ _ | refine Below.drew ?_ | refine Bel.step' ?_ (by assumption))⟩
  case round =>
    obtain ⟨k, hk, rfl, HN, hbel⟩ := hrel
    have k0 : 0 ≤ (k : Int) := by omega
    by_cases hlt : k < n
    · obtain ⟨b, off, y, cs, rfl, hy, hK, hb, hS, hc⟩ := HR.out.at_ k hlt
      obtain rfl : cs = tmCells y := hK
      have d0 : wr.cell? ⟨b, off + k * 3, none⟩ = _ := (hbel.cell (p := ⟨b, off + k * 3, none⟩) hb).trans (hc 0 _ rfl)
      have d1 : wr.cell? ⟨b, off + k * 3 + 1, none⟩ = _ := (hbel.cell (p := ⟨b, _, none⟩) hb).trans (hc 1 _ rfl)
      have d2 : wr.cell? ⟨b, off + k * 3 + 2, none⟩ = _ := (hbel.cell (p := ⟨b, _, none⟩) hb).trans (hc 2 _ rfl)
      have k1 : (k : Int) < n := by omega
      have CO := fun W hW => pleast1_at y t bt W (HT.out.below hW HT.out.lt)
      have HY := Lib.hid hy
      clear hy hc
      obtain ⟨ya, yb, yc⟩ := y
      simp only [tmV] at CO
      cases hv : beatsB t ⟨ya, yb, yc⟩ with
      | true =>
        rw [hv] at CO
        have CC := Lib.hid CO
        have HV := Lib.hid hv
        clear CO hv
        go_wp2_with (go_at_call 76; refine (CC.out _ hbel).mono ?_; rintro e w1 ⟨rfl, hb1⟩)
        go_ret
        refine ⟨⟨k, rfl, ?_⟩, Bel.step' hbel hb1⟩
        rw [decide_eq_true k0]
        symm
        unfold beatV
        rw [List.any_eq_true]
        exact ⟨_, List.mem_of_getElem? HY.out, HV.out⟩
      | false =>
        rw [hv] at CO
        have CC := Lib.hid CO
        have HV := Lib.hid hv
        clear CO hv
        go_wp2_with (go_at_call 76; refine (CC.out _ hbel).mono ?_; rintro e w1 ⟨rfl, hb1⟩)
        refine ⟨⟨k + 1, by omega, rfl, ?_, Bel.step' hbel hb1⟩, by simp [intOf]; omega⟩
        show ∀ u ∈ xs.take (k + 1), beatsB t u = false
        intro u hu
        rw [List.take_add_one, HY.out] at hu
        rcases List.mem_append.1 hu with hu | hu
        · exact HN.out u hu
        · simp at hu; subst hu; exact HV.out
    · obtain rfl : n = k := by omega
      have k1 : ¬ (n : Int) < n := by omega
      go_wp2
      go_ret
      refine ⟨⟨-1, rfl, ?_⟩, hbel⟩
      have := HN.out
      rw [List.take_of_length_le (by have := hln.out; omega)] at this
      symm
      rw [decide_eq_false (by omega)]
      unfold beatV
      rw [List.any_eq_false]
      intro u hu
      simp [this u hu]

set_option maxHeartbeats 1000000 in
theorem pcfn_at (A : Option Addr) (n c : Nat) (xs : List Tm) (t : Tm) (bt : Nat) (S : Nat → Prop) (w : World) (h : Rd tmR w S A n c xs) (ht : Blk w bt (tmCells t).toArray 40) :
    Calls Tryz.prog 75 #[.slice A n c, .func (.func 76) #[] #[.pointer (some ⟨bt, 0, none⟩)]] w fun e w' => e = .returned (.bool (beatV xs t)) ∧ Below w.heap.size w w' := by
  have CI := Lib.hid (pifn_at A n c xs t bt S w h ht)
  clear h ht
  go_enter Tryz.func75, Tryz.ntmps75
  go_wp2_with (go_at_call 94; refine CI.out.mono ?_; rintro e w1 ⟨⟨i, rfl, hi⟩, hb1⟩)
  go_ret
  exact ⟨rfl, hb1⟩

set_option maxHeartbeats 2000000 in
theorem pidx_at (A : Option Addr) (n c : Nat) (xs : List Tm) (t : Tm) (S : Nat → Prop) (w : World) (h : Rd tmR w S A n c xs) :
    Calls Tryz.prog 95 #[.slice A n c, tmV t] w fun e w' => (∃ i : Int, e = .returned (.int .i64 i) ∧ decide (0 ≤ i) = hasB xs t) ∧ Below w.heap.size w w' := by
  have HR := Lib.hid h
  have hsm := h.small
  have hle := h.le
  have hln := Lib.hid h.length
  have hg := pt_guard
  clear h
  obtain ⟨a0, a1, a2⟩ := t
  simp only [tmV]
  go_enter Tryz.func95, Tryz.ntmps95
  go_wp2
  go_loopw [8] (fun v8 wr => ∃ k : Nat, k ≤ n ∧ v8 = .int .i64 k ∧ Hid ((⟨a0, a1, a2⟩ : Tm) ∉ xs.take k) ∧ Hid (Blk wr w.heap.size #[.int .u64 a0, .int .u64 a1, .int .u64 a2] 40) ∧ Below w.heap.size w wr) (fun v8 _ => n - (intOf v8).toNat)
  case atStart => exact ⟨0, by omega, rfl, by simp [Hid], Lib.hid (Blk.new _ _ _), by (repeat first | exact Below.refl _ _ | assumption | refine Bel.alloc' ?_ _ | refine Bel.drewN ?_ _ | refine Below.drew ?_ | refine Bel.step' ?_ (by assumption))⟩
  case round =>
    obtain ⟨k, hk, rfl, HN, HB, hbel⟩ := hrel
    have k0 : 0 ≤ (k : Int) := by omega
    by_cases hlt : k < n
    · obtain ⟨b, off, y, cs, rfl, hy, hK, hb, hS, hc⟩ := HR.out.at_ k hlt
      obtain rfl : cs = tmCells y := hK
      have d0 : wr.cell? ⟨b, off + k * 3, none⟩ = _ := (hbel.cell (p := ⟨b, off + k * 3, none⟩) hb).trans (hc 0 _ rfl)
      have d1 : wr.cell? ⟨b, off + k * 3 + 1, none⟩ = _ := (hbel.cell (p := ⟨b, _, none⟩) hb).trans (hc 1 _ rfl)
      have d2 : wr.cell? ⟨b, off + k * 3 + 2, none⟩ = _ := (hbel.cell (p := ⟨b, _, none⟩) hb).trans (hc 2 _ rfl)
      have t0 := HB.out.cell 0 _ rfl
      have t1 := HB.out.cell 1 _ rfl
      have t2 := HB.out.cell 2 _ rfl
      have k1 : (k : Int) < n := by omega
      have he := fun W => pt_eql ⟨a0, a1, a2⟩ y W
      have HY := Lib.hid hy
      clear hy hc
      obtain ⟨ya, yb, yc⟩ := y
      simp only [tmV] at he
      by_cases hv : (⟨a0, a1, a2⟩ : Tm) = ⟨ya, yb, yc⟩
      · rw [decide_eq_true hv] at he
        have HV := Lib.hid hv
        clear hv
        go_wp2
        go_quiet (fail)
        go_wp2
        go_ret
        refine ⟨⟨k, rfl, ?_⟩, Bel.drewN hbel _⟩
        rw [decide_eq_true k0]
        symm
        unfold hasB
        rw [decide_eq_true_iff, HV.out]
        exact List.mem_of_getElem? HY.out
      · rw [decide_eq_false hv] at he
        have HV := Lib.hid hv
        clear hv
        go_wp2
        go_quiet (fail)
        go_wp2
        refine ⟨⟨k + 1, by omega, rfl, ?_, Lib.hid (HB.out.drewN _), Bel.drewN hbel _⟩, by simp [intOf]; omega⟩
        show _ ∉ xs.take (k + 1)
        rw [List.take_add_one, HY.out]
        intro hu
        rcases List.mem_append.1 hu with hu | hu
        · exact HN.out hu
        · simp at hu; exact HV.out (by simp [hu])
    · obtain rfl : n = k := by omega
      have k1 : ¬ (n : Int) < n := by omega
      go_wp2
      go_ret
      refine ⟨⟨-1, rfl, ?_⟩, hbel⟩
      have := HN.out
      rw [List.take_of_length_le (by have := hln.out; omega)] at this
      rw [decide_eq_false (by omega)]
      symm
      unfold hasB
      exact decide_eq_false this

set_option maxHeartbeats 1000000 in
theorem pcont_at (A : Option Addr) (n c : Nat) (xs : List Tm) (t : Tm) (S : Nat → Prop) (w : World) (h : Rd tmR w S A n c xs) :
    Calls Tryz.prog 77 #[.slice A n c, tmV t] w fun e w' => e = .returned (.bool (hasB xs t)) ∧ Below w.heap.size w w' := by
  have CI := Lib.hid (fun W (hW : Below w.heap.size w W) => pidx_at A n c xs t S W (h.below hW))
  clear h
  generalize hasB xs t = v at CI ⊢
  obtain ⟨a0, a1, a2⟩ := t
  simp only [tmV] at CI ⊢
  go_enter Tryz.func77, Tryz.ntmps77
  go_wp2_with (go_at_call 95; refine (CI.out _ (by (repeat first | exact Below.refl _ _ | assumption | refine Bel.alloc' ?_ _ | refine Bel.drewN ?_ _ | refine Below.drew ?_ | refine Bel.step' ?_ (by assumption)))).mono ?_; rintro e w1 ⟨⟨i, rfl, hi⟩, hb1⟩)
  go_ret
  exact ⟨rfl, by (repeat first | exact Below.refl _ _ | assumption | refine Bel.alloc' ?_ _ | refine Bel.drewN ?_ _ | refine Below.drew ?_ | refine Bel.step' ?_ (by assumption))⟩

theorem pcmp_lays (blk off size : Nat) (w : World) : CmpLays Tryz.prog 37 #[] tmCells 3 cmpV blk off size w :=
  fun _ _ _ _ x y => (pcompare_d x y _).mono fun _ _ ⟨he, hb⟩ => ⟨he, hb.laid⟩

theorem psort_at (blk off cap : Nat) (d : Array Tm) (w : World) (hH : HoldsK tmCells 3 w blk off d) (hblk : blk < w.heap.size) (hsz : d.size < 4611686018427387904) :
    Calls Tryz.prog 78 #[.slice (some ⟨blk, off, none⟩) d.size cap, .func (.func 37) #[] #[]] w fun e w' => e = .returned (.tuple #[]) ∧ ∃ d' n os, PermIn 0 d.size d d' ∧ SortedIn (ltOf cmpV) 0 d.size d' ∧ w' = sortWorldK tmCells 3 w blk off n d' os :=
  AnyQ.slices_SortFunc Tryz.sortPt 3 Tryz.isAgg40 Tryz.sizeOf40 tmCells (fun _ => rfl) (fun x v hv => by simp [tmCells] at hv; rcases hv with rfl | rfl | rfl <;> rfl) cmpV ltV_swo 37 #[] blk off cap d w (enters_of Tryz.func37 (by kernel_rfl) rfl) (pcmp_lays blk off d.size w) hH hblk hsz

/-- slices.SortFunc at a row of the call's own. -/
theorem psort_own {W : World} {base n : Nat} {v : Value} {xs : List Tm} (h : W.ownsRow base 40 3 v n (xs.flatMap tmCells)) (hB : base ≤ W.heap.size) (hn : n < 4611686018427387904) :
    Calls Tryz.prog 78 #[v, .func (.func 37) #[] #[]] W fun e w' => e = .returned (.tuple #[]) ∧ w'.ownsRow base 40 3 v n ((sortV xs).flatMap tmCells) ∧ Below base W w' := by
  have hl : xs.length = n := by have := h.1; rw [flat_length tmCells 3 (fun _ => rfl)] at this; omega
  rcases h.2 with ⟨rfl, h0⟩ | ⟨g, cap, cur, rfl, _⟩
  · subst h0
    have : xs = [] := List.eq_nil_of_length_eq_zero hl
    subst this
    refine (AnyF.slices_SortFunc_none { Tryz.sortPt with } none 0 _ W).mono fun e w' ⟨he, hw⟩ => ?_
    subst hw
    exact ⟨he, h, Below.refl _ _⟩
  · obtain ⟨hH, hbg, hgl, _⟩ := own_holds h
    have hs := psort_at g 0 cap xs.toArray W hH hgl (by simp; omega)
    simp only [List.size_toArray, hl] at hs
    refine hs.mono fun e w' ⟨he, d', q, os, hp, hs', hw⟩ => ?_
    have hd : d' = (sortV xs).toArray := by
      have := sorted_is (d := xs.toArray) (d' := d') (by simpa [hl] using hp) (by simpa [hl] using hs')
      simpa using this
    subst hd; subst hw
    exact ⟨he, own_sorted h (by rw [sortV_length, hl]), below_sorted (Below.refl _ _) hbg hB⟩
end Go.Proofs.YtiiegpklpmogmaaGreatDoor
