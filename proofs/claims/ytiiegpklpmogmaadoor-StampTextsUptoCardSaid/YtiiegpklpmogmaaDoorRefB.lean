/- The document's own answer for chapter 1: digits, Text. -/
import Derived.Test.YtiiegpklpmogmaaDoorRefA
import Derived.Laws.IdiomStrings
set_option linter.unusedVariables false
set_option linter.unusedSimpArgs false
namespace Go.Proofs.YtiiegpklpmogmaaDoor
open Go.RowKit

/-- A byte made a string. -/
theorem byte_str (w : World) (d : Nat) (hd : d < 10) : (convert 72 9 (.slice (some ⟨w.heap.size, 0, none⟩) 1 1)).run Tryd.prog (w.alloc (.cells #[.int .u8 (48 + d)] 5)) = .ok (.string ⟨[UInt8.ofNat (48 + d)].toArray⟩) (w.alloc (.cells #[.int .u8 (48 + d)] 5)) := by
  have := run_convert_bytes_back (P := Tryd.prog) (w.alloc (.cells #[.int .u8 (48 + d)] 5)) 72 9 5 ⟨w.heap.size, 0, none⟩ 1 [UInt8.ofNat (48 + d)] Tryd.underlying72 Tryd.underlying5 Tryd.underlying9 ?_
  · exact this
  · intro j hj
    have hj0 : j = 0 := by simp at hj; exact hj
    subst hj0
    have h := (Blk.new w #[.int .u8 (48 + d)] 5).cell 0 _ rfl
    rw [Addr.add_lit]
    rw [h]
    have : (([UInt8.ofNat (48 + d)] : List UInt8)[0]).toNat = 48 + d := dig_nat d hd
    rw [this]
    simp

theorem str_eq {a : ByteArray} {l : List UInt8} (h : a.data.toList = l) : Ending.returned (.string a) = .returned (.string ⟨l.toArray⟩) := by
  subst h; rfl
theorem byte48 (d : Nat) : (48 + UInt8.ofNat d : UInt8) = UInt8.ofNat (48 + d) := (UInt8.ofNat_add 48 d).symm
theorem str_app (a b : ByteArray) : (a ++ b).data.toList = a.data.toList ++ b.data.toList := by simp

set_option maxHeartbeats 1000000 in
set_option maxRecDepth 8000 in
theorem refdig_at (u : Nat) (hu : u < 18446744073709551616) (w : World) :
    Calls Tryd.prog 25 #[.int .u64 u] w fun e w' => e = .returned (.string ⟨(Lib.decDigits u).toArray⟩) ∧ Below w.heap.size w w' := by
  go_enter Tryd.func25, Tryd.ntmps25
  go_wp2
  go_loopw [0, 3] (fun v0 v3 wr => ∃ (v : Nat) (s : ByteArray), v0 = .int .u64 v ∧ v3 = .string s ∧ v ≤ u ∧ Hid (Lib.decDigits v ++ s.data.toList = Lib.decDigits u) ∧ Below w.heap.size w wr) (fun v0 _ _ => (intOf v0).toNat)
  case atStart => exact ⟨u, ⟨#[]⟩, rfl, rfl, Nat.le_refl _, Lib.hid (by simp), by (repeat first | exact Below.refl _ _ | assumption | refine Bel.alloc' ?_ _ | refine Bel.drewN ?_ _ | refine Below.drew ?_ | refine Bel.step' ?_ (by assumption))⟩
  case round =>
    obtain ⟨v, s, rfl, rfl, hv, HS, hbel⟩ := hrel
    have hsl : s.size ≤ 20 := by
      have h := congrArg List.length HS.out
      have h2 := decI_length (u : Int) (by omega)
      have h3 : s.data.toList.length = s.size := Array.length_toList
      unfold decI at h2
      rw [Int.toNat_natCast] at h2
      simp only [List.length_append] at h
      omega
    have hno : ¬ 9223372036854775807 < 1 + s.size := by omega
    by_cases h9 : v > 9
    · have t1 : (9 : Int) < v := by omega
      have hcv := byte_str wr (v % 10) (by omega)
      rw [show (((v % 10 : Nat)) : Int) = (v : Int) % 10 by omega] at hcv
      have h2 : Hid (({ data := #[48 + UInt8.ofNat (v % 10)] } : ByteArray).data.toList = [UInt8.ofNat (48 + v % 10)]) := Lib.hid (by rw [byte48])
      go_wp2
      refine ⟨⟨v / 10, _, by simp, rfl, by omega, ?_, by (repeat first | exact Below.refl _ _ | assumption | refine Bel.alloc' ?_ _ | refine Bel.drewN ?_ _ | refine Below.drew ?_ | refine Bel.step' ?_ (by assumption))⟩, ?_⟩
      · refine Lib.hid ?_
        have h := HS.out
        rw [Lib.decDigits, dif_neg (by omega), List.append_assoc] at h
        rw [str_app, h2.out]
        exact h
      · simp [intOf]; omega
    · have t1 : ¬ (9 : Int) < v := by omega
      have hcv := byte_str wr v (by omega)
      have e2 : Hid ([UInt8.ofNat (48 + v)] ++ s.data.toList = Lib.decDigits u) := Lib.hid (by rw [← HS.out, Lib.decDigits_one (by omega)])
      have h2 : Hid (({ data := #[48 + UInt8.ofNat v] } : ByteArray).data.toList = [UInt8.ofNat (48 + v)]) := Lib.hid (by rw [byte48])
      go_wp2
      go_ret
      exact ⟨str_eq (by rw [str_app, h2.out]; exact e2.out), by (repeat first | exact Below.refl _ _ | assumption | refine Bel.alloc' ?_ _ | refine Bel.drewN ?_ _ | refine Below.drew ?_ | refine Bel.step' ?_ (by assumption))⟩

/-! ### Text -/
theorem str_eq2 {a : ByteArray} {l : List UInt8} {k : Int} (h : a.data.toList = l) : Ending.returned (.tuple #[.string a, .int .i64 k]) = .returned (.tuple #[.string ⟨l.toArray⟩, .int .i64 k]) := by
  subst h; rfl
theorem reftext_bad (t : Tm) (n : Int) (w : World) (h : fitsV t.a t.b t.c n ≠ 0) :
    Calls Tryd.prog 8 #[tmV t, .int .i64 n] w fun e w' => e = .returned (.tuple #[.string ⟨#[]⟩, .int .i64 (fitsV t.a t.b t.c n)]) ∧ Below w.heap.size w w' := by
  have CF := Lib.hid (fun W => reffits_at t.a t.b t.c n W)
  have h1 : (fitsV t.a t.b t.c n != 0) = true := by simpa using h
  generalize fitsV t.a t.b t.c n = v at CF h1 ⊢
  clear h
  obtain ⟨a, b, c⟩ := t
  simp only [tmV] at CF ⊢
  go_enter Tryd.func8, Tryd.ntmps8
  go_wp2_with (go_at_call 23; refine (CF.out _).mono ?_; rintro e w1 ⟨rfl, hb1⟩)
  go_ret2
  exact ⟨rfl, by (repeat first | exact Below.refl _ _ | assumption | refine Bel.alloc' ?_ _ | refine Bel.drewN ?_ _ | refine Below.drew ?_ | refine Bel.step' ?_ (by assumption))⟩

theorem refdig_int (x : Int) (h0 : 0 ≤ x) (h1 : x < 18446744073709551616) (w : World) :
    Calls Tryd.prog 25 #[.int .u64 x] w fun e w' => e = .returned (.string ⟨(decI x).toArray⟩) ∧ Below w.heap.size w w' := by
  have := refdig_at x.toNat (by omega) w
  rw [show ((x.toNat : Nat) : Int) = x by omega] at this
  exact this
theorem text_step (t : Tm) (k : Nat) (h1 : 1 ≤ k) (h2 : k < 3) : textV t (k + 1) = textV t k ++ [46] ++ decI ((nums t).getD k 0) := by
  obtain ⟨a, b, c⟩ := t
  rcases (show k = 1 ∨ k = 2 by omega) with rfl | rfl <;> simp [textV, nums, Lib.join, List.intercalate]

set_option maxHeartbeats 4000000 in
set_option maxRecDepth 8000 in
theorem reftext_good (t : Tm) (n : Nat) (w : World) (hok : t.ok) (hn1 : 1 ≤ n) (hn3 : n ≤ 3) (h : fitsV t.a t.b t.c n = 0) :
    Calls Tryd.prog 8 #[tmV t, .int .i64 n] w fun e w' => e = .returned (.tuple #[.string ⟨(textV t n).toArray⟩, .int .i64 0]) ∧ Below w.heap.size w w' := by
  have CF := Lib.hid (fun W => reffits_at t.a t.b t.c n W)
  rw [h] at CF
  clear h
  have HO := Lib.hid hok
  have hs1 := text_step t 1 (by omega) (by omega)
  have hs2 := text_step t 2 (by omega) (by omega)
  have h1 : textV t 1 = decI t.a := by simp [textV, nums, Lib.join_one]
  obtain ⟨a, b, c⟩ := t
  simp only [tmV, nums, List.getD_cons_zero, List.getD_cons_succ] at CF hs1 hs2 h1 ⊢
  have D0 := Lib.hid (fun W => refdig_int a HO.out.1.1 HO.out.1.2 W)
  have D1 := Lib.hid (fun W => refdig_int b HO.out.2.1.1 HO.out.2.1.2 W)
  have D2 := Lib.hid (fun W => refdig_int c HO.out.2.2.1 HO.out.2.2.2 W)
  have CN := Lib.hid (fun W => refnum_at a b c W)
  have HS1 := Lib.hid hs1
  have HS2 := Lib.hid hs2
  have H1 := Lib.hid h1
  clear hs1 hs2 h1 hok
  have hn3' : (n : Int) ≤ 3 := by omega
  go_enter Tryd.func8, Tryd.ntmps8
  go_upto_region 5 with (first | (go_at_call 23; refine (CF.out _).mono ?_; rintro e w1 ⟨rfl, hb1⟩; have hB1 := (Blk.new w #[.int .u64 a, .int .u64 b, .int .u64 c] 24).later hb1; have z0 := hB1.cell 0 _ rfl; have z1 := hB1.cell 1 _ rfl; have z2 := hB1.cell 2 _ rfl; clear hB1) | (go_at_call 24; refine (CN.out _).mono ?_; rintro e w2 ⟨g, rfl, hB2, hg2, hb2⟩))
  have hbw : Below w.heap.size w w2 := Bel.step' (by (repeat first | exact Below.refl _ _ | assumption | refine Bel.alloc' ?_ _ | refine Bel.drewN ?_ _ | refine Below.drew ?_ | refine Bel.step' ?_ (by assumption))) hb2
  have c0 := hB2.cell 0 _ rfl
  have hgl := hB2.lt
  go_wp2_with (go_at_call 25; refine (D0.out _).mono ?_; rintro e w3 ⟨rfl, hb3⟩)
  go_loopw [8, 9] (fun v8 v9 wr => ∃ (k : Nat) (s : ByteArray), 1 ≤ k ∧ k ≤ n ∧ v9 = .int .i64 k ∧ v8 = .string s ∧ Hid (s.data.toList = textV ⟨a, b, c⟩ k) ∧ Hid (Blk wr g #[.int .u64 a, .int .u64 b, .int .u64 c] 22) ∧ Below w.heap.size w wr) (fun _ v9 _ => n - (intOf v9).toNat)
  case atStart => exact ⟨1, _, by omega, hn1, rfl, rfl, Lib.hid (by rw [H1.out]), Lib.hid (hB2.later hb3), Bel.step' hbw hb3⟩
  case round =>
    obtain ⟨k, s, hk1, hkn, rfl, rfl, HT, HB, hbr⟩ := hrel
    have hltr := HB.out.lt
    have hsl : s.size ≤ 63 := by
      have h := congrArg List.length HT.out
      have h2 := textV_length ⟨a, b, c⟩ k HO.out (by omega)
      have h3 : s.data.toList.length = s.size := Array.length_toList
      omega
    have hno : ¬ 9223372036854775807 < s.size + 1 := by omega
    have hnb : ¬ 9223372036854775807 < s.size + 1 + (decI b).length := by have := decI_length b HO.out.2.1.2; omega
    have hnc : ¬ 9223372036854775807 < s.size + 1 + (decI c).length := by have := decI_length c HO.out.2.2.2; omega
    by_cases hlt : k < n
    · have t1 : (k : Int) < n := by omega
      rcases (show k = 1 ∨ k = 2 by omega) with rfl | rfl
      · have d1 := HB.out.cell 1 _ rfl
        go_wp2_with (go_at_call 25; refine (D1.out _).mono ?_; rintro e w4 ⟨rfl, hb4⟩)
        exact ⟨⟨2, _, by omega, by omega, rfl, rfl, Lib.hid (by rw [str_app, str_app, HT.out, HS1.out]), Lib.hid (HB.out.later hb4), Bel.step' hbr hb4⟩, by simp [intOf]; omega⟩
      · have d1 := HB.out.cell 2 _ rfl
        go_wp2_with (go_at_call 25; refine (D2.out _).mono ?_; rintro e w4 ⟨rfl, hb4⟩)
        exact ⟨⟨3, _, by omega, by omega, rfl, rfl, Lib.hid (by rw [str_app, str_app, HT.out, HS2.out]), Lib.hid (HB.out.later hb4), Bel.step' hbr hb4⟩, by simp [intOf]; omega⟩
    · obtain rfl : k = n := by omega
      have t1 : ¬ (k : Int) < k := by omega
      go_wp2
      go_ret2
      exact ⟨str_eq2 HT.out, hbr⟩

end Go.Proofs.YtiiegpklpmogmaaDoor
