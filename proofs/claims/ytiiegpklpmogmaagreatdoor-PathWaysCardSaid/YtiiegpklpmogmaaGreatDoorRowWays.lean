/- PathWays: Then goes in any grouping and either way round; what a way of two paths makes of a time is what the one makes of what the other one makes; the empty path changes nothing. Conditions: none but the row's own (the library's listed variables hold what the program's text lays, which the card ties). -/
import Derived.Test.YtiiegpklpmogmaaGreatDoorPaWays
import Derived.Test.YtiiegpklpmogmaaGreatDoorPaRow
import Derived.Test.YtiiegpklpmogmaaGreatDoorCards
import Derived.Test.YtiiegpklpmogmaaGreatDoorTie
import Derived.SevenTiedAt
import Derived.ChangeMaps5
set_option linter.unusedVariables false
set_option linter.unusedSimpArgs false
namespace Go.Proofs.YtiiegpklpmogmaaGreatDoor
open Go.ChangeShapes Go.WideShapes Go.ChangeAt Go.RowKit

theorem ways_met (os : Os) (args : Array Value) : laidMetH Tryz.prog Rows.pathWaysRow.laid ((World.laidAll Tryz.prog os Rows.pathWaysRow.laid).forCall (fun _ _ => 0) ⟨#[], args, []⟩).memory := by
  rw [MakeChecks.laidMetH_plain _ _ _ (by kernel_rfl)]
  exact laidMet_laidAll _ (by kernel_rfl) (by kernel_rfl)

set_option maxRecDepth 100000 in
theorem ways_lifted (os : Os) (started : os.Started) (H : Type) (enc : TypeId × Value → H) (F : Stop.Interp) :
    ReturnsInHanded {} Tryz.checked os 8 .any ((OpenSpec.ofChange Rows.pathWaysSpec).preRow enc Tryz.prog Tryz.f8 Rows.pathWaysRow.domain false Rows.pathWaysRow.laid) (((OpenSpec.ofChange Rows.pathWaysSpec).at F).post enc Tryz.prog Tryz.f8 false true false false) := by
  refine returnsInHanded_of_row (C := Tryz.checked) (s := OpenSpec.ofChange Rows.pathWaysSpec) row_own started (by kernel_rfl) Tryz.func8 ?_ ?_
  · exact ⟨World.laidAll Tryz.prog os Rows.pathWaysRow.laid, fun _ _ => 0, ⟨#[], #[csV cs0], []⟩, World.laidAll_os _ _ _, World.shaped_of_ZipB (by kernel_rfl) (by kernel_rfl), rfl, (Input.okWide_of_okWideB (base := 0) (by kernel_rfl)).2,
      OpenSpec.preRow_of_cond 8 (x := ([csD cs0], [], [])) (by kernel_rfl) (by kernel_rfl) (fun k hk => by cases hk) (by kernel_rfl) (ways_met os _),
      by simp only [Assume.holds]; exact ⟨by simp, by simp, fun _ => Modest.zero, by simp, by simp⟩⟩
  intro W base args ds gs before hval0 hW _ hcond _ hL hS _
  have hval : ∀ (j : Nat) t v, Tryz.f8.params[j]? = some t → args[j]? = some v → Value.okWide Tryz.prog W .any base t v := hval0
  have hW' := hW
  obtain ⟨p, q, hA0, hV, rfl, hfz, hnd⟩ := hW
  have hA : DataW.TrodAll enc Tryz.prog W 0 (fun _ => true) true Tryz.f8.params.toList args.toList ds p := hA0
  rw [Tryz.params8] at hA hval
  obtain ⟨v0, vs0, d0, ds0, p0, q0, hargs, rfl, rfl, h0, r0⟩ := trodAll_cons hA
  obtain ⟨rfl, rfl, rfl⟩ := trodAll_nil r0
  obtain rfl : args = #[v0] := by cases args; simp_all
  obtain ⟨rfl, rfl⟩ := trodVars_none hV
  obtain ⟨x0, rfl, rfl, rfl, w0⟩ := open_case h0
  clear hA0 hval0 hval
  simp only [List.append_nil] at hW'
  have hG : Glob W := glob_of (by kernel_rfl) hL hS (by simp [Rows.pathWaysRow]) (by simp [Rows.pathWaysRow]) (by simp [Rows.pathWaysRow])
  refine (ways_at x0 W hG w0).mono fun e W' ⟨he, hB⟩ => ?_
  subst he
  refine ⟨_, rfl, _, _, _, [], [], [], hW', ?_, ?_, ?_, hB.frame _, fun h => by cases h⟩
  · exact trodAll_mk1 (shut_bool Tryz.underlying4 true)
  · exact (trodAll_cons_mk (shut_case w0) trodAll_mk0)
  · rfl

theorem ways_said : Rows.PathWaysSaid :=
  OpenClaim.holds_of_cond 8 Tryz.f8 rfl rfl rfl rfl rfl rfl rfl ⟨rfl, rfl, rfl, rfl, rfl⟩ rfl rfl rfl rfl rfl (by kernel_rfl) Tryz.func8 (by kernel_rfl)
    (of_decide_eq_true (by kernel_rfl)) (by unfold Func.isWrapper; first | (rw [if_pos (by decide +kernel)]; kernel_rfl) | (rw [if_neg (by decide +kernel)]; exact ⟨rfl, rfl⟩))
    (fun os started H enc _ F => by rw [OpenClaim.pre_eq_preRow]; exact ways_lifted os started H enc F)

theorem ways_plain (f : FuncId) (fn : Func) (hf : Tryz.pinned.checked.prog.funcNamed "sluice/sluicelaw02.PathWays" = some f) (hfn : Tryz.pinned.checked.prog.funcs[f]? = some fn) :
    true = Tryz.pinned.checked.prog.looks [] ∧ ∀ (j : Nat) t, fn.params[j]? = some t → Tryz.pinned.checked.prog.wantsStandIn t = false := by
  obtain rfl : f = 8 := Option.some.inj ((show Tryz.prog.funcNamed "sluice/sluicelaw02.PathWays" = some 8 by kernel_rfl).symm.trans hf) |>.symm
  obtain rfl : fn = Tryz.f8 := (Option.some.inj (Tryz.func8.symm.trans hfn)).symm
  refine ⟨by kernel_rfl, fun j t ht => ?_⟩
  rw [Tryz.params8] at ht
  have hm : t ∈ [42] := by have := Array.mem_of_getElem? ht; simpa using this
  have hall : ([42].all fun u => !Tryz.prog.wantsStandIn u) = true := by kernel_rfl
  exact (show Tryz.prog.wantsStandIn t = false by simpa using List.all_eq_true.1 hall t hm)

/-- The card. -/
theorem pathWays_card : Rows.PathWaysCardSaid :=
  Claim7.holds_tied_plain_at .later [] _ _ _ _ ways_said (fun _ h => by cases h) (by kernel_rfl) (fun _ h => by cases h) pathWays_row_tie rfl ⟨rfl, rfl⟩ (by kernel_rfl) rfl ways_plain (by kernel_rfl)
#print axioms pathWays_card
end Go.Proofs.YtiiegpklpmogmaaGreatDoor
