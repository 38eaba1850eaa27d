/- PathTexts: of any path, any text of bulk at most 1048576 and any arity, Text and Parse answer as the document's own answer does. Conditions: the second form's bound on what the row reads, and the row's own (the library's listed variables hold what the program's text lays, which the card ties). -/
import Derived.Test.YtiiegpklpmogmaaGreatDoorPaTexts
import Derived.Test.YtiiegpklpmogmaaGreatDoorPaRow
import Derived.Test.YtiiegpklpmogmaaGreatDoorCards
import Derived.Test.YtiiegpklpmogmaaGreatDoorTie
import Derived.SevenTiedAt
import Derived.ChangeMaps5
set_option linter.unusedVariables false
set_option linter.unusedSimpArgs false
namespace Go.Proofs.YtiiegpklpmogmaaGreatDoor
open Go.ChangeShapes Go.WideShapes Go.ChangeAt Go.RowKit

theorem texts_met (os : Os) (args : Array Value) : laidMetH Tryz.prog Rows.pathTextsUptoRow.laid ((World.laidAll Tryz.prog os Rows.pathTextsUptoRow.laid).forCall (fun _ _ => 0) ⟨#[], args, []⟩).memory := by
  rw [MakeChecks.laidMetH_plain _ _ _ (by kernel_rfl)]
  exact laidMet_laidAll _ (by kernel_rfl) (by kernel_rfl)

set_option maxRecDepth 100000 in
theorem texts_lifted (os : Os) (started : os.Started) (H : Type) (enc : TypeId × Value → H) (F : Stop.Interp) :
    ReturnsInHanded {} Tryz.checked os 7 .any ((Rows.OpenSpec.upto Rows.pathTextsSpec).preRow enc Tryz.prog Tryz.f7 Rows.pathTextsUptoRow.domain false Rows.pathTextsUptoRow.laid) (((Rows.OpenSpec.upto Rows.pathTextsSpec).at F).post enc Tryz.prog Tryz.f7 false true false false) := by
  refine returnsInHanded_of_row (C := Tryz.checked) (s := Rows.OpenSpec.upto Rows.pathTextsSpec) row_own started (by kernel_rfl) Tryz.func7 ?_ ?_
  · exact ⟨World.laidAll Tryz.prog os Rows.pathTextsUptoRow.laid, fun _ _ => 0, ⟨#[], #[tmV tm0, .int .i64 0, .string ⟨#[]⟩], []⟩, World.laidAll_os _ _ _, World.shaped_of_ZipB (by kernel_rfl) (by kernel_rfl), rfl, (Input.okWide_of_okWideB (base := 0) (by kernel_rfl)).2,
      OpenSpec.preRow_of_cond 8 (x := ([tmD tm0, .lit (.int .i64 0), .lit (.string [])], [], [])) (by kernel_rfl) (by kernel_rfl) (fun k hk => by cases hk; kernel_rfl) (by kernel_rfl) (texts_met os _),
      by simp only [Assume.holds]; exact ⟨by simp, by simp, fun _ => Modest.zero, by simp, by simp⟩⟩
  intro W base args ds gs before hval0 hW _ hcond hsz0 hL hS _
  have hval : ∀ (j : Nat) t v, Tryz.f7.params[j]? = some t → args[j]? = some v → Value.okWide Tryz.prog W .any base t v := hval0
  have hW' := hW
  obtain ⟨p, q, hA0, hV, rfl, hfz, hnd⟩ := hW
  have hA : DataW.TrodAll enc Tryz.prog W 0 (fun _ => true) true Tryz.f7.params.toList args.toList ds p := hA0
  rw [Tryz.params7] at hA hval
  obtain ⟨v0, vs0, d0, ds0, p0, q0, hargs, rfl, rfl, h0, r0⟩ := trodAll_cons hA
  obtain ⟨v1, vs1, d1, ds1, p1, q1, rfl, rfl, rfl, h1, r1⟩ := trodAll_cons r0
  obtain ⟨v2, vs2, d2, ds2, p2, q2, rfl, rfl, rfl, h2, r2⟩ := trodAll_cons r1
  obtain ⟨rfl, rfl, rfl⟩ := trodAll_nil r2
  obtain rfl : args = #[v0, v1, v2] := by cases args; simp_all
  obtain ⟨rfl, rfl⟩ := trodVars_none hV
  obtain ⟨x0, rfl, rfl, rfl, w0⟩ := open_pt h0
  obtain ⟨x1, rfl, rfl, rfl, w1⟩ := open_int Tryz.underlying3 (hval 1 3 v1 rfl rfl) h1
  obtain ⟨x2, rfl, rfl, rfl, w2⟩ := ChangeMaps.open_string Tryz.underlying9 (hval 2 9 v2 rfl rfl) h2
  have hbulk := hcond _ rfl
  simp [Rows.uptoSmall, Rows.uptoBulkAll, Rows.uptoBulk, tmD] at hbulk
  clear hcond
  clear hA0 hval0 hval
  simp only [List.append_nil] at hW'
  have hG : Glob W := glob_of (by kernel_rfl) hL hS (by simp [Rows.pathTextsUptoRow]) (by simp [Rows.pathTextsUptoRow]) (by simp [Rows.pathTextsUptoRow])
  refine (texts_at x0 x1 x2 W hG w0 (by have h : x2.data.toList.length = x2.size := Array.length_toList; simp at h; omega)).mono fun e W' ⟨he, hB⟩ => ?_
  subst he
  refine ⟨_, rfl, _, _, _, [], [], [], hW', ?_, ?_, ?_, hB.frame _, fun h => by cases h⟩
  · exact trodAll_mk1 (shut_bool Tryz.underlying4 true)
  · exact (trodAll_cons_mk (shut_pt w0) (trodAll_cons_mk (shut_int Tryz.underlying3 w1) (trodAll_cons_mk (ChangeMaps.shut_string Tryz.underlying9 w2) trodAll_mk0)))
  · rfl

theorem texts_said : Rows.PathTextsUptoSaid :=
  OpenClaim.holds_of_cond 7 Tryz.f7 rfl rfl rfl rfl rfl rfl rfl ⟨rfl, rfl, rfl, rfl, rfl⟩ rfl rfl rfl rfl rfl (by kernel_rfl) Tryz.func7 (by kernel_rfl)
    (of_decide_eq_true (by kernel_rfl)) (by unfold Func.isWrapper; first | (rw [if_pos (by decide +kernel)]; kernel_rfl) | (rw [if_neg (by decide +kernel)]; exact ⟨rfl, rfl⟩))
    (fun os started H enc _ F => by rw [OpenClaim.pre_eq_preRow]; exact texts_lifted os started H enc F)

theorem texts_plain (f : FuncId) (fn : Func) (hf : Tryz.pinned.checked.prog.funcNamed "sluice/sluicelaw02.PathTexts" = some f) (hfn : Tryz.pinned.checked.prog.funcs[f]? = some fn) :
    true = Tryz.pinned.checked.prog.looks [] ∧ ∀ (j : Nat) t, fn.params[j]? = some t → Tryz.pinned.checked.prog.wantsStandIn t = false := by
  obtain rfl : f = 7 := Option.some.inj ((show Tryz.prog.funcNamed "sluice/sluicelaw02.PathTexts" = some 7 by kernel_rfl).symm.trans hf) |>.symm
  obtain rfl : fn = Tryz.f7 := (Option.some.inj (Tryz.func7.symm.trans hfn)).symm
  refine ⟨by kernel_rfl, fun j t ht => ?_⟩
  rw [Tryz.params7] at ht
  have hm : t ∈ [40, 3, 9] := by have := Array.mem_of_getElem? ht; simpa using this
  have hall : ([40, 3, 9].all fun u => !Tryz.prog.wantsStandIn u) = true := by kernel_rfl
  exact (show Tryz.prog.wantsStandIn t = false by simpa using List.all_eq_true.1 hall t hm)

/-- The card. -/
theorem pathTextsUpto_card : Rows.PathTextsUptoCardSaid :=
  Claim7.holds_tied_plain_at .later [] _ _ _ _ texts_said (fun _ h => by cases h) (by kernel_rfl) (fun _ h => by cases h) pathTextsUpto_row_tie rfl ⟨rfl, rfl⟩ (by kernel_rfl) rfl texts_plain (by kernel_rfl)
#print axioms pathTextsUpto_card
end Go.Proofs.YtiiegpklpmogmaaGreatDoor
