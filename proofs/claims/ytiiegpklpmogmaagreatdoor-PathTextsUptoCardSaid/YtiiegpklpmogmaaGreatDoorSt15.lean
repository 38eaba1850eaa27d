/- stamp.Front, walked. -/
import Derived.Test.YtiiegpklpmogmaaGreatDoorStNone
import Derived.Test.YtiiegpklpmogmaaGreatDoorStPlain4
set_option linter.unusedVariables false
set_option linter.unusedSimpArgs false
namespace Go.Proofs.YtiiegpklpmogmaaGreatDoor
open Go.RowKit Go.Sort Go.Shelf

theorem cells_flat {w : World} {S : Nat → Prop} {xs : List Tm} {css : List (List Value)} (h : Cells tmR w S xs css) : css.flatten = xs.flatMap tmCells := by
  have e : css = xs.map tmCells := by
    apply List.ext_getElem?
    intro i
    by_cases hi : i < xs.length
    · have hx : xs[i]? = some xs[i] := List.getElem?_eq_getElem hi
      obtain ⟨cs, h1, h2, _⟩ := h.get hx
      obtain rfl : cs = tmCells xs[i] := h2
      rw [h1, List.getElem?_map, hx]; rfl
    · rw [List.getElem?_eq_none (by have := h.len; omega), List.getElem?_eq_none (by simp; omega)]
  rw [e, List.flatMap_def]

/-- slices.SortFunc at a row of the call's own. -/
theorem sort_own {W : World} {base n : Nat} {v : Value} {xs : List Tm} (h : W.ownsRow base 25 3 v n (xs.flatMap tmCells)) (hB : base ≤ W.heap.size) (hn : n < 4611686018427387904) :
    Calls Tryz.prog 58 #[v, .func (.func 23) #[] #[]] W fun e w' => e = .returned (.tuple #[]) ∧ w'.ownsRow base 25 3 v n ((sortV xs).flatMap tmCells) ∧ Below base W w' := by
  have hl : xs.length = n := by have := h.1; rw [flat_length tmCells 3 (fun _ => rfl)] at this; omega
  rcases h.2 with ⟨rfl, h0⟩ | ⟨g, cap, cur, rfl, _⟩
  · subst h0
    have : xs = [] := List.eq_nil_of_length_eq_zero hl
    subst this
    refine (sort_nil none 0 _ W).mono fun e w' ⟨he, hw⟩ => ?_
    subst hw
    exact ⟨he, h, Below.refl _ _⟩
  · obtain ⟨hH, hbg, hgl, _⟩ := own_holds h
    have hs := sort_at g 0 cap xs.toArray W hH hgl (by simp; omega)
    simp only [List.size_toArray, hl] at hs
    refine hs.mono fun e w' ⟨he, d', q, os, hp, hs', hw⟩ => ?_
    have hd : d' = (sortV xs).toArray := by
      have := sorted_is (d := xs.toArray) (d' := d') (by simpa [hl] using hp) (by simpa [hl] using hs')
      simpa using this
    subst hd; subst hw
    exact ⟨he, own_sorted h (by rw [sortV_length, hl]), below_sorted (Below.refl _ _) hbg hB⟩

/-- A front: of the call's own memory. -/
def FrontPost (w : World) (ys : List Tm) (e : Ending) (w' : World) : Prop :=
  ∃ A c, e = .returned (.slice A ys.length c) ∧ w'.ownsRow w.heap.size 25 3 (.slice A ys.length c) ys.length (ys.flatMap tmCells) ∧ Below w.heap.size w w'

def frK (xs : List Tm) (k : Nat) : List Tm := ((sortV xs).take k).foldl frontStep []
theorem frK_succ {xs : List Tm} {k : Nat} {t : Tm} (h : (sortV xs)[k]? = some t) : frK xs (k + 1) = frontStep (frK xs k) t := by
  unfold frK
  rw [List.take_add_one, h, List.foldl_append]; rfl
theorem frK_all (xs : List Tm) : frK xs xs.length = frontV xs := by
  unfold frK frontV
  rw [List.take_of_length_le (by rw [sortV_length]; exact Nat.le_refl _)]
theorem frK_length (xs : List Tm) (k : Nat) : (frK xs k).length ≤ k := by
  induction k with
  | zero => simp [frK]
  | succ k ih =>
    cases h : (sortV xs)[k]? with
    | some t =>
      rw [frK_succ h]
      unfold frontStep
      split
      · omega
      · simp; omega
    | none =>
      have : frK xs (k + 1) = frK xs k := by unfold frK; rw [List.take_add_one, h]; simp
      rw [this]; omega

theorem own_base {w : World} {B B' : Nat} {e : TypeId} {k : Nat} {v : Value} {n : Nat} {xs : List Value} (h : w.ownsRow B e k v n xs) (hb : B' ≤ B) : w.ownsRow B' e k v n xs := by
  refine ⟨h.1, ?_⟩
  rcases h.2 with h2 | ⟨g, cap, cur, h1, h2, h3⟩
  · exact .inl h2
  · exact .inr ⟨g, cap, cur, h1, Nat.le_trans hb h2, h3⟩

set_option maxHeartbeats 4000000 in
set_option maxRecDepth 8000 in
theorem front_at (A : Option Addr) (n c : Nat) (xs : List Tm) (S : Nat → Prop) (w : World) (h : Rd tmR w S A n c xs) (hbig : n * 24 ≤ 140737488355328) :
    Calls Tryz.prog 15 #[.slice A n c] w (FrontPost w (frontV xs)) := by
  have CC := Lib.hid (clone_tm A n c xs S w h hbig)
  obtain rfl := h.length
  have hle := h.le
  have hsm := h.small
  clear h
  obtain ⟨i0, hi, hz0, hz1, hz2⟩ := info_parts Tryz.info_tm
  have CS := Lib.hid (fun W base v hW hB => sort_own (W := W) (base := base) (n := xs.length) (v := v) (xs := xs) hW hB (by omega))
  go_enter Tryz.func15, Tryz.ntmps15
  go_wp2_with (first | (go_at_call 57; refine CC.out.mono ?_; rintro e w1 ⟨A1, c1, css, rfl, hown1, hC1, hb1⟩; rw [cells_flat hC1] at hown1; clear hC1) | (go_at_call 58; refine (CS.out _ _ _ hown1 hb1.size).mono ?_; rintro e w2 ⟨rfl, hown2, hb2⟩))
  have hz2' : w.heap.size ≤ w2.heap.size := by have := hb1.size; have := hb2.size; omega
  have hlen := sortV_length xs
  obtain ⟨A2, c2, e2, hrd⟩ := own_rd (enc := tmCells) (hl := fun _ => rfl) (xs := sortV xs) (by rw [hlen]; exact hown2)
  rw [hlen] at e2 hrd
  injection e2 with e2 _ e3
  subst e2; subst e3
  have HR := Lib.hid hrd
  have hsm2 := hrd.small
  have hle2 := hrd.le
  clear hrd
  have HB := Lib.hid (hb1.trans hb2)
  clear hown1 hown2
  go_loopw [4, 13] (fun v4 v13 wr => ∃ (k : Nat) (ao : Option Addr) (cv : Nat), k ≤ xs.length ∧ v13 = .int .i64 k ∧ v4 = .slice ao (frK xs k).length cv ∧ wr.ownsRow w2.heap.size 25 3 v4 (frK xs k).length ((frK xs k).flatMap tmCells) ∧ Below w2.heap.size w2 wr) (fun _ v13 _ => xs.length - (intOf v13).toNat)
  case atStart => exact ⟨0, none, 0, Nat.zero_le _, rfl, rfl, World.ownsRow_nil _ _ _ _, Below.refl _ _⟩
  case round =>
    obtain ⟨k, ao, cv, hk, rfl, rfl, hown, hbel⟩ := hrel
    have k0 : 0 ≤ (k : Int) := by omega
    by_cases hlt : k < xs.length
    · obtain ⟨b, off, t, cs, rfl, ht, hK, hb, hS, hc⟩ := HR.out.at_ k hlt
      obtain rfl : cs = tmCells t := hK
      have hsucc := frK_succ ht
      have hlk := frK_length xs k
      have d0 : wr.cell? ⟨b, off + k * 3, none⟩ = _ := (hbel.cell (p := ⟨b, off + k * 3, none⟩) hb).trans (hc 0 _ rfl)
      have d1 : wr.cell? ⟨b, off + k * 3 + 1, none⟩ = _ := (hbel.cell (p := ⟨b, _, none⟩) hb).trans (hc 1 _ rfl)
      have d2 : wr.cell? ⟨b, off + k * 3 + 2, none⟩ = _ := (hbel.cell (p := ⟨b, _, none⟩) hb).trans (hc 2 _ rfl)
      have k1 : (k : Int) < xs.length := by omega
      have hwr := hbel.size
      obtain ⟨A3, c3, e3, hrd3⟩ := own_rd (enc := tmCells) (hl := fun _ => rfl) (xs := frK xs k) hown
      injection e3 with e3 _ e4
      subst e3; subst e4
      have hop := fun W (hW : Below wr.heap.size wr W) => open_at _ _ _ (frK xs k) t _ W (hrd3.below hW)
      clear ht hc hrd3
      generalize frK xs k = acc at hown hop hsucc hlk ⊢
      obtain ⟨ta, tb, tc⟩ := t
      simp only [tmV] at hop
      unfold frontStep at hsucc
      cases ho : openV acc ⟨ta, tb, tc⟩ with
      | true =>
        rw [ho] at hop hsucc
        rw [if_pos rfl] at hsucc
        have HS := Lib.hid hsucc
        clear hsucc
        have CO := Lib.hid hop
        clear hop
        go_wp2_with (go_at_call 16; refine (CO.out _ (by (repeat first | exact Below.refl _ _ | assumption | refine Bel.alloc' ?_ _ | refine Bel.drewN ?_ _ | refine Below.drew ?_ | refine Bel.step' ?_ (by assumption)))).mono ?_; rintro e w4 ⟨rfl, hb4⟩)
        have hb4' : Below wr.heap.size wr w4 := Bel.step' (by (repeat first | exact Below.refl _ _ | assumption | refine Bel.alloc' ?_ _ | refine Bel.drewN ?_ _ | refine Below.drew ?_ | refine Bel.step' ?_ (by assumption))) hb4
        refine ⟨⟨k + 1, _, _, by omega, rfl, by rw [HS.out], by rw [HS.out]; exact own_below hown hb4', hbel.trans (hb4'.mono hwr)⟩, by simp [intOf]; omega⟩
      | false =>
        rw [ho] at hop hsucc
        rw [if_neg Bool.false_ne_true] at hsucc
        have HS := Lib.hid hsucc
        clear hsucc
        have CO := Lib.hid hop
        clear hop
        go_wp2_with (first | (go_at_call 16; refine (CO.out _ (by (repeat first | exact Below.refl _ _ | assumption | refine Bel.alloc' ?_ _ | refine Bel.drewN ?_ _ | refine Below.drew ?_ | refine Bel.step' ?_ (by assumption)))).mono ?_; rintro e w4 ⟨rfl, hb4⟩; have hB4 := (Blk.new _ _ _).later hb4; have f0 := hB4.cell 0 _ rfl; have f1 := hB4.cell 1 _ rfl; have f2 := hB4.cell 2 _ rfl; clear hB4; have hb4' : Below wr.heap.size wr w4 := Bel.step' (by (repeat first | exact Below.refl _ _ | assumption | refine Bel.alloc' ?_ _ | refine Bel.drewN ?_ _ | refine Below.drew ?_ | refine Bel.step' ?_ (by assumption))) hb4) | (at_builtin; refine wpList_append_own _ rfl _ _ 22 rfl w2.heap.size 25 i0 (.agg #[.int .u64 0, .int .u64 0, .int .u64 0]) 3 24 Tryz.underlying22 hi hz0 hz1 hz2 rfl (by decide) _ _ _ rfl ((own_below hown hb4').alloc _) ⟨w4.heap.size, 0, none⟩ 1 1 (tmCells ⟨ta, tb, tc⟩) rfl rfl ?qa1 ?qa2 ?qa3 ?qa4 ?qa5 ?_))
        case qa1 => intro j u hj; rw [Addr.add_lit]; exact (Blk.new _ _ _).cell _ _ (by simpa [tmCells] using hj)
        case qa2 => exact tm_one w S ⟨ta, tb, tc⟩ _ rfl
        case qa3 => unfold maxLen; omega
        case qa4 => omega
        case qa5 => have := hb4'.size; simp; omega
        intro v' w5 hown' hgrow5 hnil5
        go_wp2
        have hb5 : Below w2.heap.size wr w5 := ((hb4'.mono hwr).alloc (Nat.le_trans hwr hb4'.size) _).grown hgrow5 (by have := hb4'.size; simp; omega) (fun q hq => ?_)
        obtain ⟨ao', cv', rfl⟩ := own_form hown'
        refine ⟨⟨k + 1, ao', cv', by omega, rfl, ?_, ?_, hbel.trans hb5⟩, by simp [intOf]; omega⟩
        · rw [HS.out]; simp
        · rw [HS.out]; simpa [List.flatMap_append] using hown'
        · have := (hown.lt q hq).1; omega
    · obtain rfl : k = xs.length := by omega
      have k1 : ¬ (xs.length : Int) < xs.length := by omega
      go_wp2
      go_ret
      rw [frK_all] at hown ⊢
      exact ⟨ao, cv, rfl, own_base hown hz2', HB.out.trans (hbel.mono hz2')⟩
end Go.Proofs.YtiiegpklpmogmaaGreatDoor
