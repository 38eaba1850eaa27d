/- PathBack: its plain facts and its walk joined. -/
import Derived.Test.YtiiegpklpmogmaaGreatDoorPaBack
import Derived.Test.YtiiegpklpmogmaaGreatDoorPaRow
set_option linter.unusedVariables false
set_option linter.unusedSimpArgs false
namespace Go.Proofs.YtiiegpklpmogmaaGreatDoor
open Go.RowKit

theorem fits_zero {t : Tm} {n : Int} (h : fitsV t.a t.b t.c n = 0) : 1 ≤ n ∧ n ≤ 3 := by
  unfold fitsV at h
  by_cases hn : n < 1 ∨ n > 3
  · rw [if_pos hn] at h; cases h
  · omega

theorem reads_at {p : Tm} {n : Int} (hok : p.ok) (hf : fitsV p.a p.b p.c n = 0) (w : World) (hg : Glob w) (k : Int) (k1 : 1 ≤ k) (k3 : k ≤ 3) : ReadsAt w ⟨(pTextV p n.toNat).toArray⟩ n k p.a p.b p.c := by
  obtain ⟨n1, n3⟩ := fits_zero hf
  have hl := textV_length p n.toNat hok (by omega)
  have hl2 := ptext_length p n.toNat
  refine ⟨_, _, _, _, fun W hW => pparse_at ⟨(pTextV p n.toNat).toArray⟩ k W (hg.below hW) (by show (pTextV p n.toNat).toArray.size < _; simp only [List.size_toArray]; omega), fun hk => ?_, fun hk => ?_⟩
  · subst hk
    have h := pparse_text hok n1 n3 hf
    rw [h]
    exact ⟨rfl, rfl, rfl, rfl⟩
  · by_cases hz : (pParseV ⟨(pTextV p n.toNat).toArray⟩ k).2 = 0
    · exfalso
      obtain ⟨_, _, _, _, he⟩ := pparse_good (s := ⟨(pTextV p n.toNat).toArray⟩) (n := k) (t := (pParseV ⟨(pTextV p n.toNat).toArray⟩ k).1) (by rw [← hz])
      have c1 := ptext_commas (t := p) (n := n.toNat) (by omega) (by omega)
      have c2 := ptext_commas (t := (pParseV ⟨(pTextV p n.toNat).toArray⟩ k).1) (n := k.toNat) (by omega) (by omega)
      rw [← he] at c2
      have e : (⟨(pTextV p n.toNat).toArray⟩ : ByteArray).data.toList = pTextV p n.toNat := rfl
      rw [e, c1] at c2
      omega
    · simpa using hz

theorem pback_at (p : Tm) (n : Int) (s : ByteArray) (w : World) (hg : Glob w) (hok : p.ok) (hs : s.size < 4294967281) :
    Calls Tryz.prog 11 #[tmV p, .int .i64 n, .string s] w fun e w' => e = .returned (.bool true) ∧ Below w.heap.size w w' := by
  have main : ∀ (v : Int) (a : ByteArray), SaysFrom w 48 #[tmV p, .int .i64 n] (.tuple #[.string a, .int .i64 v]) → (v = 0 → (n = 1 ∨ n = 2 ∨ n = 3) ∧ ∀ k : Int, 1 ≤ k → k ≤ 3 → ReadsAt w a n k p.a p.b p.c) →
      Calls Tryz.prog 11 #[tmV p, .int .i64 n, .string s] w fun e w' => e = .returned (.bool true) ∧ Below w.heap.size w w' := by
    intro v a hT hK
    refine pback_walk p.a p.b p.c n v a s (pParseV s n).1.a (pParseV s n).1.b (pParseV s n).1.c (pParseV s n).2 w hg (Lib.hid hT) (Lib.hid hK) (Lib.hid fun W hW => pparse_at s n W (hg.below hW) hs) (Lib.hid fun hz => ?_) (Lib.hid fun hz => ?_) (Lib.hid fun W => ?_) (Lib.hid fun W => ?_)
    · obtain ⟨a1, a2, a3, a4, a5⟩ := pparse_good (s := s) (n := n) (t := (pParseV s n).1) (by rw [← hz])
      have es : (⟨(pTextV (pParseV s n).1 n.toNat).toArray⟩ : ByteArray) = s := by rw [← a5]
      refine ⟨fun W hW => ?_, fun W hW => ?_⟩
      · have h := ptext_good (pParseV s n).1 n.toNat W (hg.below hW) a1 (by omega) (by omega) (by rw [show ((n.toNat : Nat) : Int) = n by omega]; exact a2)
        rw [show ((n.toNat : Nat) : Int) = n by omega, es] at h
        exact h
      · have h := pfits_at (pParseV s n).1.a (pParseV s n).1.b (pParseV s n).1.c n W
        rw [a2] at h
        exact h
    · have h := pparse_none s n hz
      rw [h]
      exact ⟨rfl, rfl, rfl⟩
    · have h := pt_neq p p W
      rw [decide_eq_true rfl] at h
      exact h
    · have h := pt_eql tm0 tm0 W
      rw [decide_eq_true rfl] at h
      exact h
  by_cases hf : fitsV p.a p.b p.c n = 0
  · obtain ⟨n1, n3⟩ := fits_zero hf
    have en : ((n.toNat : Nat) : Int) = n := by omega
    refine main 0 ⟨(pTextV p n.toNat).toArray⟩ (fun W hW => ?_) (fun _ => ⟨by omega, fun k k1 k3 => reads_at hok hf w hg k k1 k3⟩)
    have h := ptext_good p n.toNat W (hg.below hW) hok (by omega) (by omega) (by rw [en]; exact hf)
    rw [en] at h
    exact h
  · exact main _ ⟨#[]⟩ (fun W hW => ptext_bad p n W hf) (fun hz => absurd hz hf)
end Go.Proofs.YtiiegpklpmogmaaGreatDoor
