/- stamp.Parse, its words, walked. -/
import Derived.Test.YtiiegpklpmogmaaGreatDoorSt8
import Derived.Lib.ParseIntBCases
set_option linter.unusedVariables false
set_option linter.unusedSimpArgs false
namespace Go.Proofs.YtiiegpklpmogmaaGreatDoor
open Go.RowKit

/-- What Parse makes of the words. -/
def wordsV (ws : List ByteArray) : Tm × Int := match ws.mapM word1 with | some us => (tmOf us, 0) | none => (tm0, 11)

theorem mapM_take_succ (ws : List ByteArray) (k : Nat) (x : ByteArray) (us : List Nat) (u : Nat) (hx : ws[k]? = some x) (h : (ws.take k).mapM word1 = some us) (hu : word1 x = some u) : (ws.take (k + 1)).mapM word1 = some (us ++ [u]) := by
  rw [List.take_add_one, hx, List.mapM_append, h]
  simp [hu]
theorem mapM_none (ws : List ByteArray) (k : Nat) (x : ByteArray) (hx : ws[k]? = some x) (hu : word1 x = none) : ws.mapM word1 = none := by
  have hk := (List.getElem?_eq_some_iff.1 hx).1
  have e : ws = ws.take k ++ x :: ws.drop (k + 1) := by
    have h1 := (List.getElem?_eq_some_iff.1 hx).2
    rw [← h1]
    simp
  rw [e, List.mapM_append]
  cases (ws.take k).mapM word1 with
  | none => rfl
  | some us => simp [hu]
theorem mapM_len (ws : List ByteArray) (us : List Nat) (h : ws.mapM word1 = some us) : us.length = ws.length := by
  induction ws generalizing us with
  | nil => simp at h; subst h; rfl
  | cons x xs ih =>
    simp only [List.mapM_cons, Option.bind_eq_bind, Option.bind_eq_some_iff, Option.pure_def, Option.some.injEq] at h
    obtain ⟨u, _, r, hr, rfl⟩ := h
    simp [ih r hr]

def nRow (us : List Nat) : Array Value := #[.int .u64 (us.getD 0 0 : Nat), .int .u64 (us.getD 1 0 : Nat), .int .u64 (us.getD 2 0 : Nat)]

theorem nRow_at (us : List Nat) (k : Nat) (h : k < 3) : ∃ v, (nRow us)[k]? = some v := ⟨_, Array.getElem?_eq_getElem (by simpa [nRow] using h)⟩
theorem nRow_set (us : List Nat) (u k : Nat) (hk : us.length = k) (h : k < 3) : (nRow us).setIfInBounds k (.int .u64 (u : Nat)) = nRow (us ++ [u]) := by
  subst hk
  match us, h with
  | [], _ => rfl
  | [a], _ => rfl
  | [a, b], _ => rfl
  | a :: b :: c :: r, h => simp at h; omega
set_option maxHeartbeats 4000000 in
set_option maxRecDepth 8000 in
theorem parse_words (s : ByteArray) (n : Nat) (w : World) (hg : Glob w) (hs : s.size < 4294967281) (hn1 : 1 ≤ n) (hn3 : n ≤ 3) (hl : (wordsOf s).length = n) :
    Calls Tryz.prog 54 #[.string s, .int .i64 n] w fun e w' => e = .returned (.tuple #[tmV (wordsV (wordsOf s)).1, .int .i64 (wordsV (wordsOf s)).2]) ∧ Below w.heap.size w w' := by
  have CS := Lib.hid (fun W hW => split_at s hs W (hg.below hW))
  rw [hl] at CS
  have HS := Lib.hid (fun x hx => Nat.lt_of_le_of_lt (words_size s x hx) hs)
  have HG := Lib.hid hg
  have HL := Lib.hid hl
  generalize wordsOf s = ws at CS HS HL ⊢
  clear hg hl hs
  have h1 : ¬ (n : Int) < 1 := by omega
  have h3 : ¬ (n : Int) > 3 := by omega
  go_enter Tryz.func54, Tryz.ntmps54
  go_wp2_with (go_at_call 86; refine (CS.out _ (by (repeat first | exact Below.refl _ _ | assumption | refine Bel.alloc' ?_ _ | refine Bel.drewN ?_ _ | refine Below.drew ?_ | refine Bel.step' ?_ (by assumption)))).mono ?_; rintro e w1 ⟨rfl, rfl⟩)
  go_loopw [28] (fun v28 wr => ∃ (k : Nat) (us : List Nat), k ≤ n ∧ v28 = .int .i64 k ∧ us.length = k ∧ Hid ((ws.take k).mapM word1 = some us) ∧ Hid (Blk wr (w.heap.size + 1 + 1) (nRow us) 81) ∧ Hid (Blk wr w.heap.size #[.int .u64 0, .int .u64 0, .int .u64 0] 25) ∧ Hid (Blk wr (w.heap.size + 1) (ws.map Value.string).toArray 9) ∧ Below w.heap.size w wr) (fun v28 _ => n - (intOf v28).toNat)
  case atStart =>
    refine ⟨0, [], Nat.zero_le _, rfl, rfl, Lib.hid rfl, Lib.hid ?_, Lib.hid ?_, Lib.hid ?_, by (repeat first | exact Below.refl _ _ | assumption | refine Bel.alloc' ?_ _ | refine Bel.drewN ?_ _ | refine Below.drew ?_ | refine Bel.step' ?_ (by assumption))⟩
    · have := Blk.new ((w.alloc (.cells #[.int .u64 0, .int .u64 0, .int .u64 0] 25)).alloc (.cells (ws.map Value.string).toArray 9)) #[.int .u64 0, .int .u64 0, .int .u64 0] 81
      simpa [nRow] using this
    · exact ((Blk.new w _ _).alloc _).alloc _
    · have := Blk.new (w.alloc (.cells #[.int .u64 0, .int .u64 0, .int .u64 0] 25)) (ws.map Value.string).toArray 9
      have := this.alloc (.cells #[.int .u64 0, .int .u64 0, .int .u64 0] 81)
      simpa using this
  case round =>
    obtain ⟨k, us, hk, rfl, hul, hms, HN, HR, HW, hbw⟩ := hrel
    have hltN := HN.out.lt
    have hltR := HR.out.lt
    have hLL := HL.out
    by_cases hkn : k = n
    · obtain rfl : n = k := hkn.symm
      have tlt : ¬ (n : Int) < n := by omega
      have HV : Hid (wordsV ws = (tmOf us, 0)) := by
        show _ = _
        have := hms.out
        rw [List.take_of_length_le (by omega)] at this
        unfold wordsV; rw [this]
      have HT : Hid (tmV (tmOf us) = .agg #[.int .u64 (us.getD 0 0 : Nat), .int .u64 (us.getD 1 0 : Nat), .int .u64 (us.getD 2 0 : Nat)]) := rfl
      have hN0 : Blk wr (w.heap.size + 1 + 1) #[.int .u64 (us.getD 0 0 : Nat), .int .u64 (us.getD 1 0 : Nat), .int .u64 (us.getD 2 0 : Nat)] 81 := HN.out
      clear HN hms
      generalize ((us.getD 0 0 : Nat) : Int) = x0 at HT hN0
      generalize ((us.getD 1 0 : Nat) : Int) = x1 at HT hN0
      generalize ((us.getD 2 0 : Nat) : Int) = x2 at HT hN0
      have n0 := hN0.cell 0 _ rfl
      have n1 := hN0.cell 1 _ rfl
      have n2 := hN0.cell 2 _ rfl
      have r0 := HR.out.cell 0 _ rfl
      have r1 := HR.out.cell 1 _ rfl
      have r2 := HR.out.cell 2 _ rfl
      have rf := HR.out.frozen
      go_wp2_with (go_at_call 88; refine (made_at _ _ _ _).mono ?_; rintro e w3 ⟨rfl, hb3⟩; obtain ⟨hc3, hf3⟩ := Bel.cells hb3)
      obtain ⟨HZ, hbZ⟩ := res_row (x := .int .u64 x0) (y := .int .u64 x1) (z := .int .u64 x2) HR.out hb3 hbw (Nat.le_refl _)
      generalize (((w3.setCell ⟨w.heap.size, 0, none⟩ (.int .u64 x0)).setCell ⟨w.heap.size, 1, none⟩ (.int .u64 x1)).setCell ⟨w.heap.size, 2, none⟩ (.int .u64 x2)) = Z at HZ hbZ ⊢
      have z0 := HZ.cell 0 _ rfl
      have z1 := HZ.cell 1 _ rfl
      have z2 := HZ.cell 2 _ rfl
      refine bodyPost_ret (v := .tuple #[.agg #[.int .u64 x0, .int .u64 x1, .int .u64 x2], .int .i64 0]) (by simp [results, Tryz.results54, go_sem, z0, z1, z2]) rfl ⟨by rw [HV.out, ← HT.out], hbZ⟩
    · have hkn' : k < n := by omega
      have tlt : (k : Int) < n := by omega
      obtain ⟨x, hx⟩ : ∃ x, ws[k]? = some x := ⟨_, List.getElem?_eq_getElem (by omega)⟩
      have hsz := HS.out x (List.mem_of_getElem? hx)
      have hcell := HW.out.cell k (.string x) (by simp [hx])
      rcases word_cases x with ⟨u, hp, hw⟩ | ⟨hp, hw⟩
      · have hu : u < 18446744073709551616 := by have := Lib.parseUintB_le hp; omega
        have CU := Lib.hid (fun W => pu_ok x hsz u hp W)
        have CF := Lib.hid (fun W hW => fmt_at u hu W hW)
        have i0 : 0 ≤ (k : Int) := by omega
        have r0 := HR.out.cell 0 _ rfl
        have r1 := HR.out.cell 1 _ rfl
        have r2 := HR.out.cell 2 _ rfl
        have rf := HR.out.frozen
        by_cases he : (⟨(Lib.decDigits u).toArray⟩ : ByteArray) = x
        · rw [if_pos he] at hw
          have t1 : (Lib.decDigits u == x.toList) = true := by rw [Lib.toList_data, ← he]; simp
          have HM := Lib.hid (mapM_take_succ ws k x us u hx hms.out hw)
          obtain ⟨v, hv⟩ := nRow_at us k (by omega)
          have hnc := HN.out.cell k v hv
          have hnf := HN.out.frozen k
          clear hp hw hx hsz hms he hv r0 r1 r2 rf
          go_wp2_with (first | (go_at_call 87; refine (CU.out _).mono ?_; rintro e w3 ⟨rfl, hb3⟩; obtain ⟨hc3, hf3⟩ := Bel.cells hb3) | (go_at_call 84; refine (CF.out _ (HG.out.below (Bel.step' hbw hb3))).mono ?_; rintro e w4 ⟨rfl, hb4⟩; obtain ⟨hc4, hf4⟩ := Bel.cells hb4; have hz4 : w.heap.size + 1 + 1 < w3.heap.size := (by have := hb3.size; omega)))
          have hb34 : Below wr.heap.size wr w4 := Bel.step' hb3 hb4
          have hN' : Blk (w4.setCell ⟨w.heap.size + 1 + 1, k, none⟩ (.int .u64 (u : Nat))) (w.heap.size + 1 + 1) (nRow (us ++ [u])) 81 := by
            rw [← nRow_set us u k hul (by omega)]; exact (HN.out.later hb34).set k _
          refine ⟨⟨k + 1, us ++ [u], by omega, rfl, by simp [hul], HM, Lib.hid hN', Lib.hid ((HR.out.later hb34).setOther _ _ (by show w.heap.size ≠ w.heap.size + 1 + 1; omega)), Lib.hid ((HW.out.later hb34).setOther _ _ (by show w.heap.size + 1 ≠ w.heap.size + 1 + 1; omega)), (Bel.step' hbw hb34).setCell (by show w.heap.size ≤ w.heap.size + 1 + 1; omega) _⟩, by simp [intOf]; omega⟩
        · rw [if_neg he] at hw
          have t1 : (Lib.decDigits u == x.toList) = false := beq_eq_false_iff_ne.2 (fun e => he (by rw [e, Lib.toList_data]))
          have HV : Hid (wordsV ws = (tm0, 11)) := by show _ = _; unfold wordsV; rw [mapM_none ws k x hx hw]
          clear hp hw hx hsz hms he
          go_wp2_with (first | (go_at_call 87; refine (CU.out _).mono ?_; rintro e w3 ⟨rfl, hb3⟩; obtain ⟨hc3, hf3⟩ := Bel.cells hb3) | (go_at_call 84; refine (CF.out _ (HG.out.below (Bel.step' hbw hb3))).mono ?_; rintro e w4 ⟨rfl, hb4⟩; obtain ⟨hc4, hf4⟩ := Bel.cells hb4; have hz4 : w.heap.size < w3.heap.size := (by have := hb3.size; omega)))
          obtain ⟨HZ, hbZ⟩ := res_row (x := .int .u64 0) (y := .int .u64 0) (z := .int .u64 0) HR.out (Bel.step' hb3 hb4) hbw (Nat.le_refl _)
          (generalize (((w4.setCell ⟨w.heap.size, 0, none⟩ (.int .u64 0)).setCell ⟨w.heap.size, 1, none⟩ (.int .u64 0)).setCell ⟨w.heap.size, 2, none⟩ (.int .u64 0)) = Z at HZ hbZ ⊢; have z0 := HZ.cell 0 _ rfl; have z1 := HZ.cell 1 _ rfl; have z2 := HZ.cell 2 _ rfl; refine bodyPost_ret (v := .tuple #[.agg #[.int .u64 0, .int .u64 0, .int .u64 0], .int .i64 11]) (by simp [results, Tryz.results54, go_sem, z0, z1, z2]) rfl ⟨by rw [HV.out]; rfl, hbZ⟩)
      · have HV : Hid (wordsV ws = (tm0, 11)) := by show _ = _; unfold wordsV; rw [mapM_none ws k x hx hw]
        have CE := Lib.hid (fun W hW => pu_err x hsz hp W hW)
        clear hp hw hx hsz hms
        have r0 := HR.out.cell 0 _ rfl
        have r1 := HR.out.cell 1 _ rfl
        have r2 := HR.out.cell 2 _ rfl
        have rf := HR.out.frozen
        have i0 : 0 ≤ (k : Int) := by omega
        go_wp2_with (go_at_call 87; refine (CE.out _ (HG.out.below hbw)).mono ?_; rintro e w3 ⟨v, N, T, rfl, hb3⟩; obtain ⟨hc3, hf3⟩ := Bel.cells hb3)
        obtain ⟨HZ, hbZ⟩ := res_row (x := .int .u64 0) (y := .int .u64 0) (z := .int .u64 0) HR.out hb3 hbw (Nat.le_refl _)
        (generalize (((w3.setCell ⟨w.heap.size, 0, none⟩ (.int .u64 0)).setCell ⟨w.heap.size, 1, none⟩ (.int .u64 0)).setCell ⟨w.heap.size, 2, none⟩ (.int .u64 0)) = Z at HZ hbZ ⊢; have z0 := HZ.cell 0 _ rfl; have z1 := HZ.cell 1 _ rfl; have z2 := HZ.cell 2 _ rfl; refine bodyPost_ret (v := .tuple #[.agg #[.int .u64 0, .int .u64 0, .int .u64 0], .int .i64 11]) (by simp [results, Tryz.results54, go_sem, z0, z1, z2]) rfl ⟨by rw [HV.out]; rfl, hbZ⟩)

/-- stamp.Parse. -/
theorem parse_at (s : ByteArray) (n : Int) (w : World) (hg : Glob w) (hs : s.size < 4294967281) :
    Calls Tryz.prog 54 #[.string s, .int .i64 n] w fun e w' => e = .returned (.tuple #[tmV (parseV s n).1, .int .i64 (parseV s n).2]) ∧ Below w.heap.size w w' := by
  by_cases h : n < 1 ∨ n > 3
  · have e : parseV s n = (tm0, 10) := by unfold parseV; rw [if_pos h]
    rw [e]; exact parse_arity s n w h
  · by_cases hl : ((wordsOf s).length : Int) ≠ n
    · have e : parseV s n = (tm0, 11) := by unfold parseV; rw [if_neg h, if_pos hl]
      rw [e]; exact parse_count s n w hg hs (by omega) (by omega) hl
    · have e : parseV s n = wordsV (wordsOf s) := by unfold parseV wordsV; rw [if_neg h, if_neg hl]; rfl
      rw [e]
      obtain ⟨m, rfl⟩ : ∃ m : Nat, n = m := ⟨n.toNat, by omega⟩
      exact parse_words s m w hg hs (by omega) (by omega) (by omega)
end Go.Proofs.YtiiegpklpmogmaaGreatDoor
