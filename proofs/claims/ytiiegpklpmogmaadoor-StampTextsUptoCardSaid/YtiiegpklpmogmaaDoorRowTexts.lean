/- StampTexts: of any time, any text of bulk at most 1048576 and any arity, Text and Parse answer as the document's own answer does. Conditions: the second form's bound on what the row reads, and the row's own (the library's listed variables hold what the program's text lays, which the card ties). -/
import Derived.Test.YtiiegpklpmogmaaDoorStTexts
import Derived.Test.YtiiegpklpmogmaaDoorStRow
import Derived.Test.YtiiegpklpmogmaaDoorCards
import Derived.Test.YtiiegpklpmogmaaDoorTie
import Derived.SevenTiedAt
import Derived.ChangeMaps5
set_option linter.unusedVariables false
set_option linter.unusedSimpArgs false
namespace Go.Proofs.YtiiegpklpmogmaaDoor
open Go.ChangeShapes Go.WideShapes Go.ChangeAt Go.RowKit

theorem texts_met (os : Os) (args : Array Value) : laidMetH Tryd.prog Rows.stampTextsUptoRow.laid ((World.laidAll Tryd.prog os Rows.stampTextsUptoRow.laid).forCall (fun _ _ => 0) ⟨#[], args, []⟩).memory := by
  rw [MakeChecks.laidMetH_plain _ _ _ (by kernel_rfl)]
  exact laidMet_laidAll _ (by kernel_rfl) (by kernel_rfl)

set_option maxRecDepth 100000 in
theorem texts_lifted (os : Os) (started : os.Started) (H : Type) (enc : TypeId × Value → H) (F : Stop.Interp) :
    ReturnsInHanded {} Tryd.checked os 3 .any ((Rows.OpenSpec.upto Rows.stampTextsSpec).preRow enc Tryd.prog Tryd.f3 Rows.stampTextsUptoRow.domain false Rows.stampTextsUptoRow.laid) (((Rows.OpenSpec.upto Rows.stampTextsSpec).at F).post enc Tryd.prog Tryd.f3 false true false false) := by
  refine returnsInHanded_of_row (C := Tryd.checked) (s := Rows.OpenSpec.upto Rows.stampTextsSpec) row_own started (by kernel_rfl) Tryd.func3 ?_ ?_
  · exact ⟨World.laidAll Tryd.prog os Rows.stampTextsUptoRow.laid, fun _ _ => 0, ⟨#[], #[tmV tm0, .string ⟨#[]⟩, .int .i64 0], []⟩, World.laidAll_os _ _ _, World.shaped_of_ZipB (by kernel_rfl) (by kernel_rfl), rfl, (Input.okWide_of_okWideB (base := 0) (by kernel_rfl)).2,
      OpenSpec.preRow_of_cond 8 (x := ([tmD tm0, .lit (.string []), .lit (.int .i64 0)], [], [])) (by kernel_rfl) (by kernel_rfl) (fun k hk => by cases hk; kernel_rfl) (by kernel_rfl) (texts_met os _),
      by simp only [Assume.holds]; exact ⟨by simp, by simp, fun _ => Modest.zero, by simp, by simp⟩⟩
  intro W base args ds gs before hval0 hW _ hcond _ hL hS _
  have hval : ∀ (j : Nat) t v, Tryd.f3.params[j]? = some t → args[j]? = some v → Value.okWide Tryd.prog W .any base t v := hval0
  have hW' := hW
  obtain ⟨p, q, hA0, hV, rfl, hfz, hnd⟩ := hW
  have hA : DataW.TrodAll enc Tryd.prog W 0 (fun _ => true) true Tryd.f3.params.toList args.toList ds p := hA0
  rw [Tryd.params3] at hA hval
  obtain ⟨v0, vs0, d0, ds0, p0, q0, hargs, rfl, rfl, h0, r0⟩ := trodAll_cons hA
  obtain ⟨v1, vs1, d1, ds1, p1, q1, rfl, rfl, rfl, h1, r1⟩ := trodAll_cons r0
  obtain ⟨v2, vs2, d2, ds2, p2, q2, rfl, rfl, rfl, h2, r2⟩ := trodAll_cons r1
  obtain ⟨rfl, rfl, rfl⟩ := trodAll_nil r2
  obtain rfl : args = #[v0, v1, v2] := by cases args; simp_all
  obtain ⟨rfl, rfl⟩ := trodVars_none hV
  obtain ⟨x0, rfl, rfl, rfl, w0⟩ := open_tm h0
  obtain ⟨x1, rfl, rfl, rfl, w1⟩ := ChangeMaps.open_string Tryd.underlying9 (hval 1 9 v1 rfl rfl) h1
  obtain ⟨x2, rfl, rfl, rfl, w2⟩ := open_int Tryd.underlying3 (hval 2 3 v2 rfl rfl) h2
  have hbulk := hcond _ rfl
  simp [Rows.uptoSmall, Rows.uptoBulkAll, Rows.uptoBulk, tmD] at hbulk
  clear hcond
  clear hA0 hval0 hval
  simp only [List.append_nil] at hW'
  have hG : Glob W := glob_of (by kernel_rfl) hL hS (by simp [Rows.stampTextsUptoRow]) (by simp [Rows.stampTextsUptoRow]) (by simp [Rows.stampTextsUptoRow])
  refine (texts_at x0 x1 x2 W hG w0 (by have h : x1.data.toList.length = x1.size := Array.length_toList; simp at h; omega)).mono fun e W' ⟨he, hB⟩ => ?_
  subst he
  refine ⟨_, rfl, _, _, _, [], [], [], hW', ?_, ?_, ?_, hB.frame _, fun h => by cases h⟩
  · exact trodAll_mk1 (shut_bool Tryd.underlying4 true)
  · exact (trodAll_cons_mk (shut_tm w0) (trodAll_cons_mk (ChangeMaps.shut_string Tryd.underlying9 w1) (trodAll_cons_mk (shut_int Tryd.underlying3 w2) trodAll_mk0)))
  · rfl

theorem texts_said : Rows.StampTextsUptoSaid :=
  OpenClaim.holds_of_cond 3 Tryd.f3 rfl rfl rfl rfl rfl rfl rfl ⟨rfl, rfl, rfl, rfl, rfl⟩ rfl rfl rfl rfl rfl (by kernel_rfl) Tryd.func3 (by kernel_rfl)
    (of_decide_eq_true (by kernel_rfl)) (by unfold Func.isWrapper; first | (rw [if_pos (by decide +kernel)]; kernel_rfl) | (rw [if_neg (by decide +kernel)]; exact ⟨rfl, rfl⟩))
    (fun os started H enc _ F => by rw [OpenClaim.pre_eq_preRow]; exact texts_lifted os started H enc F)

theorem texts_plain (f : FuncId) (fn : Func) (hf : Tryd.pinned.checked.prog.funcNamed "sluice/sluicelaw01.StampTexts" = some f) (hfn : Tryd.pinned.checked.prog.funcs[f]? = some fn) :
    true = Tryd.pinned.checked.prog.looks [] ∧ ∀ (j : Nat) t, fn.params[j]? = some t → Tryd.pinned.checked.prog.wantsStandIn t = false := by
  obtain rfl : f = 3 := Option.some.inj ((show Tryd.prog.funcNamed "sluice/sluicelaw01.StampTexts" = some 3 by kernel_rfl).symm.trans hf) |>.symm
  obtain rfl : fn = Tryd.f3 := (Option.some.inj (Tryd.func3.symm.trans hfn)).symm
  refine ⟨by kernel_rfl, fun j t ht => ?_⟩
  rw [Tryd.params3] at ht
  have hm : t ∈ [24, 9, 3] := by have := Array.mem_of_getElem? ht; simpa using this
  have hall : ([24, 9, 3].all fun u => !Tryd.prog.wantsStandIn u) = true := by kernel_rfl
  exact (show Tryd.prog.wantsStandIn t = false by simpa using List.all_eq_true.1 hall t hm)

/-- The card. -/
theorem stampTextsUpto_card : Rows.StampTextsUptoCardSaid :=
  Claim7.holds_tied_plain_at .later [] _ _ _ _ texts_said (fun _ h => by cases h) (by kernel_rfl) (fun _ h => by cases h) stampTextsUpto_row_tie rfl ⟨rfl, rfl⟩ (by kernel_rfl) rfl texts_plain (by kernel_rfl)
#print axioms stampTextsUpto_card
end Go.Proofs.YtiiegpklpmogmaaDoor
