/- stamp.Open, walked: slices.ContainsFunc, slices.IndexFunc with its closure. -/
import Derived.Test.YtiiegpklpmogmaaGreatDoorSt9
import Derived.Test.YtiiegpklpmogmaaGreatDoorStPlain4
set_option linter.unusedVariables false
set_option linter.unusedSimpArgs false
namespace Go.Proofs.YtiiegpklpmogmaaGreatDoor
open Go.RowKit

def tmR : Rp Tm := Rp.flat 3 tmCells (fun _ => rfl)
/-- Where the first that is at or ahead stands. -/
def firstV (l : List Tm) (t : Tm) : Int := match l.findIdx? (fun u => aheadB u t) with | some i => i | none => -1

set_option maxHeartbeats 1000000 in
theorem open1_at (u t : Tm) (bt : Nat) (w : World) (ht : Blk w bt (tmCells t).toArray 25) :
    Calls Tryz.prog 60 #[tmV u, .pointer (some ⟨bt, 0, none⟩)] w fun e w' => e = .returned (.bool (aheadB u t)) ∧ Below w.heap.size w w' := by
  have CA := Lib.hid (fun W => ahead_at u t W)
  obtain ⟨a, b, c⟩ := u
  obtain ⟨d, f, g⟩ := t
  simp only [tmV, tmCells] at CA ht ⊢
  have c0 := ht.cell 0 _ rfl
  have c1 := ht.cell 1 _ rfl
  have c2 := ht.cell 2 _ rfl
  have hlt := ht.lt
  clear ht
  go_enter Tryz.func60, Tryz.ntmps60
  go_wp2_with (go_at_call 21; refine (CA.out _).mono ?_; rintro e w1 ⟨rfl, hb1⟩)
  go_ret
  exact ⟨rfl, by (repeat first | exact Below.refl _ _ | assumption | refine Bel.alloc' ?_ _ | refine Bel.drewN ?_ _ | refine Below.drew ?_ | refine Bel.step' ?_ (by assumption))⟩

set_option maxHeartbeats 2000000 in
theorem ifn_at (A : Option Addr) (n c : Nat) (xs : List Tm) (t : Tm) (bt : Nat) (S : Nat → Prop) (w : World) (h : Rd tmR w S A n c xs) (ht : Blk w bt (tmCells t).toArray 25) :
    Calls Tryz.prog 91 #[.slice A n c, .func (.func 60) #[] #[.pointer (some ⟨bt, 0, none⟩)]] w fun e w' => (∃ i : Int, e = .returned (.int .i64 i) ∧ decide (0 ≤ i) = openV xs t) ∧ Below w.heap.size w w' := by
  have HR := Lib.hid h
  have HT := Lib.hid ht
  have hsm := h.small
  have hle := h.le
  have hln := Lib.hid h.length
  clear h ht
  go_enter Tryz.func91, Tryz.ntmps91
  go_wp2
  go_loopw [8] (fun v8 wr => ∃ k : Nat, k ≤ n ∧ v8 = .int .i64 k ∧ Hid (∀ u ∈ xs.take k, aheadB u t = false) ∧ Below w.heap.size w wr) (fun v8 _ => n - (intOf v8).toNat)
  case atStart => exact ⟨0, by omega, rfl, by simp [Hid], by (repeat first | exact Below.refl _ _ | assumption | refine Bel.alloc' ?_ _ | refine Bel.drewN ?_ _ | refine Below.drew ?_ | refine Bel.step' ?_ (by assumption))⟩
  case round =>
    obtain ⟨k, hk, rfl, HN, hbel⟩ := hrel
    have k0 : 0 ≤ (k : Int) := by omega
    by_cases hlt : k < n
    · obtain ⟨b, off, y, cs, rfl, hy, hK, hb, hS, hc⟩ := HR.out.at_ k hlt
      obtain rfl : cs = tmCells y := hK
      have d0 : wr.cell? ⟨b, off + k * 3, none⟩ = _ := (hbel.cell (p := ⟨b, off + k * 3, none⟩) hb).trans (hc 0 _ rfl)
      have d1 : wr.cell? ⟨b, off + k * 3 + 1, none⟩ = _ := (hbel.cell (p := ⟨b, _, none⟩) hb).trans (hc 1 _ rfl)
      have d2 : wr.cell? ⟨b, off + k * 3 + 2, none⟩ = _ := (hbel.cell (p := ⟨b, _, none⟩) hb).trans (hc 2 _ rfl)
      have k1 : (k : Int) < n := by omega
      have CO := fun W hW => open1_at y t bt W (HT.out.below hW HT.out.lt)
      have HY := Lib.hid hy
      clear hy hc
      obtain ⟨ya, yb, yc⟩ := y
      simp only [tmV] at CO
      cases hv : aheadB ⟨ya, yb, yc⟩ t with
      | true =>
        rw [hv] at CO
        have CC := Lib.hid CO
        have HV := Lib.hid hv
        clear CO hv
        go_wp2_with (go_at_call 60; refine (CC.out _ hbel).mono ?_; rintro e w1 ⟨rfl, hb1⟩)
        go_ret
        refine ⟨⟨k, rfl, ?_⟩, Bel.step' hbel hb1⟩
        rw [decide_eq_true k0]
        symm
        unfold openV
        rw [List.any_eq_true]
        exact ⟨_, List.mem_of_getElem? HY.out, HV.out⟩
      | false =>
        rw [hv] at CO
        have CC := Lib.hid CO
        have HV := Lib.hid hv
        clear CO hv
        go_wp2_with (go_at_call 60; refine (CC.out _ hbel).mono ?_; rintro e w1 ⟨rfl, hb1⟩)
        refine ⟨⟨k + 1, by omega, rfl, ?_, Bel.step' hbel hb1⟩, by simp [intOf]; omega⟩
        show ∀ u ∈ xs.take (k + 1), aheadB u t = false
        intro u hu
        rw [List.take_add_one, HY.out] at hu
        rcases List.mem_append.1 hu with hu | hu
        · exact HN.out u hu
        · simp at hu; subst hu; exact HV.out
    · obtain rfl : n = k := by omega
      have k1 : ¬ (n : Int) < n := by omega
      go_wp2
      go_ret
      refine ⟨⟨-1, rfl, ?_⟩, hbel⟩
      have := HN.out
      rw [List.take_of_length_le (by have := hln.out; omega)] at this
      symm
      rw [decide_eq_false (by omega)]
      unfold openV
      rw [List.any_eq_false]
      intro u hu
      simp [this u hu]

set_option maxHeartbeats 1000000 in
theorem cfn_at (A : Option Addr) (n c : Nat) (xs : List Tm) (t : Tm) (bt : Nat) (S : Nat → Prop) (w : World) (h : Rd tmR w S A n c xs) (ht : Blk w bt (tmCells t).toArray 25) :
    Calls Tryz.prog 59 #[.slice A n c, .func (.func 60) #[] #[.pointer (some ⟨bt, 0, none⟩)]] w fun e w' => e = .returned (.bool (openV xs t)) ∧ Below w.heap.size w w' := by
  have CI := Lib.hid (ifn_at A n c xs t bt S w h ht)
  clear h ht
  go_enter Tryz.func59, Tryz.ntmps59
  go_wp2_with (go_at_call 91; refine CI.out.mono ?_; rintro e w1 ⟨⟨i, rfl, hi⟩, hb1⟩)
  go_ret
  exact ⟨rfl, hb1⟩

set_option maxHeartbeats 1000000 in
/-- stamp.Open. -/
theorem open_at (A : Option Addr) (n c : Nat) (xs : List Tm) (t : Tm) (S : Nat → Prop) (w : World) (h : Rd tmR w S A n c xs) :
    Calls Tryz.prog 16 #[.slice A n c, tmV t] w fun e w' => e = .returned (.bool (openV xs t)) ∧ Below w.heap.size w w' := by
  have CC := Lib.hid (fun W (hW : Below w.heap.size w W) bt hb => cfn_at A n c xs t bt S W (h.below hW) hb)
  clear h
  obtain ⟨a, b, g⟩ := t
  simp only [tmV, tmCells] at CC ⊢
  go_enter Tryz.func16, Tryz.ntmps16
  go_wp2_with (go_at_call 59; refine (CC.out _ (by (repeat first | exact Below.refl _ _ | assumption | refine Bel.alloc' ?_ _ | refine Bel.drewN ?_ _ | refine Below.drew ?_ | refine Bel.step' ?_ (by assumption))) _ (Blk.new _ _ _)).mono ?_; rintro e w1 ⟨rfl, hb1⟩)
  go_ret
  exact ⟨rfl, by (repeat first | exact Below.refl _ _ | assumption | refine Bel.alloc' ?_ _ | refine Bel.drewN ?_ _ | refine Below.drew ?_ | refine Bel.step' ?_ (by assumption))⟩
end Go.Proofs.YtiiegpklpmogmaaGreatDoor
