/- The document's own answer for chapter 2: Text. -/
import Derived.Test.YtiiegpklpmogmaaGreatDoorR2F
import Derived.Test.YtiiegpklpmogmaaGreatDoorPaPlain2
set_option linter.unusedVariables false
set_option linter.unusedSimpArgs false
namespace Go.Proofs.YtiiegpklpmogmaaGreatDoor
open Go.RowKit

theorem r2dec_int (x : Int) (h0 : 0 ≤ x) (h1 : x < 18446744073709551616) (w : World) :
    Calls Tryz.prog 80 #[.int .u64 x] w fun e w' => e = .returned (.string ⟨(decI x).toArray⟩) ∧ Below w.heap.size w w' := by
  have := r2dec_at x.toNat (by omega) w
  rw [show ((x.toNat : Nat) : Int) = x by omega] at this
  exact this
theorem repl_dec (x : Int) : repl 46 44 (decI x) = decI x := by
  have h : (46 : UInt8) ∉ decI x := dec_nodot x.toNat
  unfold repl
  rw [List.map_congr_left (g := id)]
  · simp
  · intro c hc
    show (if c = 46 then 44 else c) = c
    exact if_neg (fun e => h (by rw [← e]; exact hc))
theorem ptext_0 (t : Tm) : pTextV t 0 = [43] := by simp [pTextV, textV, repl, Lib.join, List.intercalate]
theorem ptext_1 (t : Tm) : pTextV t 1 = [43] ++ decI t.a := by
  have h1 : textV t 1 = decI t.a := by simp [textV, nums, Lib.join_one]
  simp [pTextV, h1, repl_dec]
theorem ptext_step (t : Tm) (k : Nat) (h1 : 1 ≤ k) (h2 : k < 3) : pTextV t (k + 1) = pTextV t k ++ [44] ++ decI ((nums t).getD k 0) := by
  have h : textV t (k + 1) = textV t k ++ [46] ++ decI ((nums t).getD k 0) := by
    obtain ⟨a, b, c⟩ := t
    rcases (show k = 1 ∨ k = 2 by omega) with rfl | rfl <;> simp [textV, nums, Lib.join, List.intercalate]
  have ha : ∀ x y : List UInt8, repl 46 44 (x ++ y) = repl 46 44 x ++ repl 46 44 y := fun x y => by simp [repl]
  unfold pTextV
  rw [h, ha, ha, repl_dec]
  simp [repl]
theorem str_eq2 {a : ByteArray} {l : List UInt8} {k : Int} (h : a.data.toList = l) : Ending.returned (.tuple #[.string a, .int .i64 k]) = .returned (.tuple #[.string ⟨l.toArray⟩, .int .i64 k]) := by
  subst h; rfl
theorem r2text_bad (t : Tm) (n : Int) (w : World) (h : fitsV t.a t.b t.c n ≠ 0) :
    Calls Tryz.prog 49 #[tmV t, .int .i64 n] w fun e w' => e = .returned (.tuple #[.string ⟨#[]⟩, .int .i64 10]) ∧ Below w.heap.size w w' := by
  have CF := Lib.hid (fun W => r2fits_at t.a t.b t.c n W)
  have h1 : (fitsV t.a t.b t.c n != 0) = true := by simpa using h
  generalize fitsV t.a t.b t.c n = v at CF h1 ⊢
  clear h
  obtain ⟨a, b, c⟩ := t
  simp only [tmV] at CF ⊢
  go_enter Tryz.func49, Tryz.ntmps49
  go_wp2_with (go_at_call 42; refine (CF.out _).mono ?_; rintro e w1 ⟨rfl, hb1⟩)
  go_ret2
  exact ⟨rfl, by (repeat first | exact Below.refl _ _ | assumption | refine Bel.alloc' ?_ _ | refine Bel.drewN ?_ _ | refine Below.drew ?_ | refine Bel.step' ?_ (by assumption))⟩

set_option maxHeartbeats 4000000 in
set_option maxRecDepth 8000 in
theorem r2text_good (t : Tm) (n : Nat) (w : World) (hok : t.ok) (hn1 : 1 ≤ n) (hn3 : n ≤ 3) (h : fitsV t.a t.b t.c n = 0) :
    Calls Tryz.prog 49 #[tmV t, .int .i64 n] w fun e w' => e = .returned (.tuple #[.string ⟨(pTextV t n).toArray⟩, .int .i64 0]) ∧ Below w.heap.size w w' := by
  have CF := Lib.hid (fun W => r2fits_at t.a t.b t.c n W)
  rw [h] at CF
  clear h
  have HO := Lib.hid hok
  have hs1 := ptext_step t 1 (by omega) (by omega)
  have hs2 := ptext_step t 2 (by omega) (by omega)
  have h1 := ptext_1 t
  have h0 := ptext_0 t
  obtain ⟨a, b, c⟩ := t
  simp only [tmV, nums, List.getD_cons_zero, List.getD_cons_succ] at CF hs1 hs2 h1 h0 ⊢
  have D0 := Lib.hid (fun W => r2dec_int a HO.out.1.1 HO.out.1.2 W)
  have D1 := Lib.hid (fun W => r2dec_int b HO.out.2.1.1 HO.out.2.1.2 W)
  have D2 := Lib.hid (fun W => r2dec_int c HO.out.2.2.1 HO.out.2.2.2 W)
  have CN := Lib.hid (fun W => r2num_at a b c W)
  have HS1 := Lib.hid hs1
  have HS2 := Lib.hid hs2
  have H1 := Lib.hid h1
  have H0 := Lib.hid h0
  clear hs1 hs2 h1 h0 hok
  go_enter Tryz.func49, Tryz.ntmps49
  go_wp2_with (first | (go_at_call 42; refine (CF.out _).mono ?_; rintro e w1 ⟨rfl, hb1⟩; have hB1 := (Blk.new w #[.int .u64 a, .int .u64 b, .int .u64 c] 40).later hb1; have z0 := hB1.cell 0 _ rfl; have z1 := hB1.cell 1 _ rfl; have z2 := hB1.cell 2 _ rfl; clear hB1) | (go_at_call 73; refine (CN.out _).mono ?_; rintro e w2 ⟨g, rfl, hB2, hg2, hb2⟩))
  have hbw : Below w.heap.size w w2 := Bel.step' (by (repeat first | exact Below.refl _ _ | assumption | refine Bel.alloc' ?_ _ | refine Bel.drewN ?_ _ | refine Below.drew ?_ | refine Bel.step' ?_ (by assumption))) hb2
  clear hb2
  go_loopw [6, 16] (fun v6 v16 wr => ∃ (k : Nat) (s : ByteArray), k ≤ 3 ∧ v16 = .int .i64 k ∧ v6 = .string s ∧ Hid (s.data.toList = pTextV ⟨a, b, c⟩ (min k n)) ∧ Hid (Blk wr g #[.int .u64 a, .int .u64 b, .int .u64 c] 23) ∧ Below w.heap.size w wr) (fun _ v16 _ => 3 - (intOf v16).toNat)
  case atStart => exact ⟨0, _, by omega, rfl, rfl, Lib.hid (by rw [Nat.zero_min, H0.out]), Lib.hid hB2, hbw⟩
  case round =>
    obtain ⟨k, s, hk3, rfl, rfl, HT, HB, hbr⟩ := hrel
    have hltr := HB.out.lt
    have hsl : s.size ≤ 64 := by
      have h := congrArg List.length HT.out
      have h2 := textV_length ⟨a, b, c⟩ (min k n) HO.out (by omega)
      rw [ptext_length] at h
      have h3 : s.data.toList.length = s.size := Array.length_toList
      omega
    have hno : ¬ 9223372036854775807 < s.size + 1 := by omega
    have hna : ¬ 9223372036854775807 < s.size + (decI a).length := by have := decI_length a HO.out.1.2; omega
    have hnb : ¬ 9223372036854775807 < s.size + 1 + (decI b).length := by have := decI_length b HO.out.2.1.2; omega
    have hnc : ¬ 9223372036854775807 < s.size + 1 + (decI c).length := by have := decI_length c HO.out.2.2.2; omega
    clear hsl
    rcases (show k = 0 ∨ k = 1 ∨ k = 2 ∨ k = 3 by omega) with rfl | rfl | rfl | rfl
    · have t1 : (0 : Int) < n := by omega
      have d0 := HB.out.cell 0 _ rfl
      have hm0 : min 0 n = 0 := by omega
      have hm1 : min 1 n = 1 := by omega
      rw [hm0, H0.out] at HT
      go_wp2_with (go_at_call 80; refine (D0.out _).mono ?_; rintro e w4 ⟨rfl, hb4⟩)
      exact ⟨⟨1, _, by omega, rfl, rfl, Lib.hid (by rw [str_app, HT.out, hm1, H1.out]), Lib.hid (HB.out.later hb4), Bel.step' hbr hb4⟩, by simp [intOf]⟩
    · have d1 := HB.out.cell 1 _ rfl
      have hm1 : min 1 n = 1 := by omega
      rw [hm1] at HT
      by_cases hlt : 1 < n
      · have t1 : (1 : Int) < n := by omega
        have hm2 : min 2 n = 2 := by omega
        clear hlt
        go_wp2_with (go_at_call 80; refine (D1.out _).mono ?_; rintro e w4 ⟨rfl, hb4⟩)
        exact ⟨⟨2, _, by omega, rfl, rfl, Lib.hid (by rw [str_app, str_app, HT.out, hm2, HS1.out]), Lib.hid (HB.out.later hb4), Bel.step' hbr hb4⟩, by simp [intOf]⟩
      · have t1 : ¬ (1 : Int) < n := by omega
        have hm2 : min 2 n = 1 := by omega
        clear hlt
        go_wp2
        exact ⟨⟨2, _, by omega, rfl, rfl, Lib.hid (by rw [HT.out, hm2]), HB, hbr⟩, by simp [intOf]⟩
    · have d1 := HB.out.cell 2 _ rfl
      by_cases hlt : 2 < n
      · have t1 : (2 : Int) < n := by omega
        have hm2 : min 2 n = 2 := by omega
        have hm3 : min 3 n = 3 := by omega
        rw [hm2] at HT
        clear hlt
        go_wp2_with (go_at_call 80; refine (D2.out _).mono ?_; rintro e w4 ⟨rfl, hb4⟩)
        exact ⟨⟨3, _, by omega, rfl, rfl, Lib.hid (by rw [str_app, str_app, HT.out, hm3, HS2.out]), Lib.hid (HB.out.later hb4), Bel.step' hbr hb4⟩, by simp [intOf]⟩
      · have t1 : ¬ (2 : Int) < n := by omega
        have hm3 : min 3 n = min 2 n := by omega
        clear hlt
        go_wp2
        exact ⟨⟨3, _, by omega, rfl, rfl, Lib.hid (by rw [HT.out, hm3]), HB, hbr⟩, by simp [intOf]⟩
    · have hm3 : min 3 n = n := by omega
      rw [hm3] at HT
      go_wp2
      go_ret2
      exact ⟨str_eq2 HT.out, hbr⟩
end Go.Proofs.YtiiegpklpmogmaaGreatDoor
