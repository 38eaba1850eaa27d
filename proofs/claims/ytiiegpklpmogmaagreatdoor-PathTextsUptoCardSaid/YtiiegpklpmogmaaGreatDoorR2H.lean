/- The document's own answer for chapter 2: number. -/
import Derived.Test.YtiiegpklpmogmaaGreatDoorR2G
import Derived.Test.YtiiegpklpmogmaaGreatDoorPaPlain5
set_option linter.unusedVariables false
set_option linter.unusedSimpArgs false
namespace Go.Proofs.YtiiegpklpmogmaaGreatDoor
open Go.RowKit

theorem wrap_step (x c : Int) : IntKind.u64.wrap (IntKind.u64.wrap (IntKind.u64.wrap (10 * x) + c) - 48) = u64Mod2 (u64Mod2 (10 * x) + (c - 48)) := by
  simp only [IntKind.wrap_u64, u64Mod2]; omega

set_option maxHeartbeats 2000000 in
theorem r2number_at (s : ByteArray) (w : World) (hs : s.size < 4294967281) :
    Calls Tryz.prog 83 #[.string s] w fun e w' => e = .returned (.int .u64 (numV s.data.toList)) ∧ Below w.heap.size w w' := by
  have hlen : s.data.toList.length = s.size := Array.length_toList
  go_enter Tryz.func83, Tryz.ntmps83
  go_wp2
  go_loopw [3, 4] (fun v3 v4 wr => ∃ (i : Nat) (x : Int), i ≤ s.size ∧ v4 = .int .i64 i ∧ v3 = .int .u64 x ∧ Hid (x = numV (s.data.toList.take i)) ∧ Below w.heap.size w wr) (fun _ v4 _ => s.size - (intOf v4).toNat)
  case atStart => exact ⟨0, 0, by omega, rfl, rfl, Lib.hid rfl, by (repeat first | exact Below.refl _ _ | assumption | refine Bel.alloc' ?_ _ | refine Bel.drewN ?_ _ | refine Below.drew ?_ | refine Bel.step' ?_ (by assumption))⟩
  case round =>
    obtain ⟨i, x, hi, rfl, rfl, HX, hbr⟩ := hrel
    have i0 : 0 ≤ (i : Int) := by omega
    by_cases hlt : i < s.size
    · have il : (i : Int) < s.size := by omega
      have hci : s.data.toList[i]? = some s[i] := by
        rw [List.getElem?_eq_getElem (by omega)]; rfl
      have hst := num_snoc (s.data.toList.take i) s[i]
      rw [← HX.out] at hst
      have ht : s.data.toList.take (i + 1) = s.data.toList.take i ++ [s[i]] := by rw [List.take_add_one, hci]; rfl
      rw [← ht] at hst
      have HS := Lib.hid hst
      have hw := wrap_step x s[i].toNat
      have hc8 : IntKind.u64.wrap (s[i].toNat : Int) = s[i].toNat := by have := s[i].toNat_lt; rw [IntKind.wrap_u64]; omega
      have HW := Lib.hid hw
      have HC8 := Lib.hid hc8
      clear hw hc8
      clear hst hci ht
      go_wp2
      exact ⟨⟨i + 1, _, by omega, rfl, rfl, Lib.hid (by rw [HS.out, HC8.out, HW.out]; rfl), hbr⟩, by simp [intOf]; omega⟩
    · obtain rfl : i = s.size := by omega
      have il : ¬ (s.size : Int) < s.size := by omega
      have hx := HX.out
      rw [List.take_of_length_le (by omega)] at hx
      have HX' := Lib.hid hx
      clear hx
      go_wp2
      go_ret
      exact ⟨by rw [← HX'.out]; rfl, hbr⟩
end Go.Proofs.YtiiegpklpmogmaaGreatDoor
