/- StampTwo: of any two times and any arity both orders, Join, Meet and Fits answer as the document's own answer does. Conditions: none but the row's own (the library's listed variables hold what the program's text lays, which the card ties). -/
import Derived.Test.YtiiegpklpmogmaaGreatDoorStTwo
import Derived.Test.YtiiegpklpmogmaaGreatDoorStRow
import Derived.Test.YtiiegpklpmogmaaGreatDoorCards
import Derived.Test.YtiiegpklpmogmaaGreatDoorTie
import Derived.SevenTiedAt
set_option linter.unusedVariables false
set_option linter.unusedSimpArgs false
namespace Go.Proofs.YtiiegpklpmogmaaGreatDoor
open Go.ChangeShapes Go.WideShapes Go.ChangeAt Go.RowKit

theorem two_met (os : Os) (args : Array Value) : laidMetH Tryz.prog Rows.stampTwoRow.laid ((World.laidAll Tryz.prog os Rows.stampTwoRow.laid).forCall (fun _ _ => 0) ⟨#[], args, []⟩).memory := by
  rw [MakeChecks.laidMetH_plain _ _ _ (by kernel_rfl)]
  exact laidMet_laidAll _ (by kernel_rfl) (by kernel_rfl)

set_option maxRecDepth 100000 in
theorem two_lifted (os : Os) (started : os.Started) (H : Type) (enc : TypeId × Value → H) (F : Stop.Interp) :
    ReturnsInHanded {} Tryz.checked os 4 .any ((OpenSpec.ofChange Rows.stampTwoSpec).preRow enc Tryz.prog Tryz.f4 Rows.stampTwoRow.domain false Rows.stampTwoRow.laid) (((OpenSpec.ofChange Rows.stampTwoSpec).at F).post enc Tryz.prog Tryz.f4 false true false false) := by
  refine returnsInHanded_of_row (C := Tryz.checked) (s := OpenSpec.ofChange Rows.stampTwoSpec) row_own started (by kernel_rfl) Tryz.func4 ?_ ?_
  · exact ⟨World.laidAll Tryz.prog os Rows.stampTwoRow.laid, fun _ _ => 0, ⟨#[], #[tmV tm0, tmV tm0, .int .i64 0], []⟩, World.laidAll_os _ _ _, World.shaped_of_ZipB (by kernel_rfl) (by kernel_rfl), rfl, (Input.okWide_of_okWideB (base := 0) (by kernel_rfl)).2,
      OpenSpec.preRow_of_cond 8 (x := ([tmD tm0, tmD tm0, .lit (.int .i64 0)], [], [])) (by kernel_rfl) (by kernel_rfl) (fun k hk => by cases hk) (by kernel_rfl) (two_met os _),
      by simp only [Assume.holds]; exact ⟨by simp, by simp, fun _ => Modest.zero, by simp, by simp⟩⟩
  intro W base args ds gs before hval0 hW _ _ _ hL hS _
  have hval : ∀ (j : Nat) t v, Tryz.f4.params[j]? = some t → args[j]? = some v → Value.okWide Tryz.prog W .any base t v := hval0
  have hW' := hW
  obtain ⟨p, q, hA0, hV, rfl, hfz, hnd⟩ := hW
  have hA : DataW.TrodAll enc Tryz.prog W 0 (fun _ => true) true Tryz.f4.params.toList args.toList ds p := hA0
  rw [Tryz.params4] at hA hval
  obtain ⟨v0, vs0, d0, ds0, p0, q0, hargs, rfl, rfl, h0, r0⟩ := trodAll_cons hA
  obtain ⟨v1, vs1, d1, ds1, p1, q1, rfl, rfl, rfl, h1, r1⟩ := trodAll_cons r0
  obtain ⟨v2, vs2, d2, ds2, p2, q2, rfl, rfl, rfl, h2, r2⟩ := trodAll_cons r1
  obtain ⟨rfl, rfl, rfl⟩ := trodAll_nil r2
  obtain rfl : args = #[v0, v1, v2] := by cases args; simp_all
  obtain ⟨rfl, rfl⟩ := trodVars_none hV
  obtain ⟨x0, rfl, rfl, rfl, w0⟩ := open_tm h0
  obtain ⟨x1, rfl, rfl, rfl, w1⟩ := open_tm h1
  obtain ⟨x2, rfl, rfl, rfl, w2⟩ := open_int Tryz.underlying3 (hval 2 3 v2 rfl rfl) h2
  clear hA0 hval0 hval
  simp only [List.append_nil] at hW'
  have hG : Glob W := glob_of (by kernel_rfl) hL hS (by simp [Rows.stampTwoRow]) (by simp [Rows.stampTwoRow]) (by simp [Rows.stampTwoRow])
  refine (two_at x0 x1 x2 W hG w0 w1).mono fun e W' ⟨he, hB⟩ => ?_
  subst he
  refine ⟨_, rfl, _, _, _, [], [], [], hW', ?_, ?_, ?_, hB.frame _, fun h => by cases h⟩
  · exact trodAll_mk1 (shut_bool Tryz.underlying4 true)
  · exact (trodAll_cons_mk (shut_tm w0) (trodAll_cons_mk (shut_tm w1) (trodAll_cons_mk (shut_int Tryz.underlying3 w2) trodAll_mk0)))
  · rfl

theorem two_said : Rows.StampTwoSaid :=
  OpenClaim.holds_of_cond 4 Tryz.f4 rfl rfl rfl rfl rfl rfl rfl ⟨rfl, rfl, rfl, rfl, rfl⟩ rfl rfl rfl rfl rfl (by kernel_rfl) Tryz.func4 (by kernel_rfl)
    (of_decide_eq_true (by kernel_rfl)) (by unfold Func.isWrapper; first | (rw [if_pos (by decide +kernel)]; kernel_rfl) | (rw [if_neg (by decide +kernel)]; exact ⟨rfl, rfl⟩))
    (fun os started H enc _ F => by rw [OpenClaim.pre_eq_preRow]; exact two_lifted os started H enc F)

theorem two_plain (f : FuncId) (fn : Func) (hf : Tryz.pinned.checked.prog.funcNamed "sluice/sluicelaw01.StampTwo" = some f) (hfn : Tryz.pinned.checked.prog.funcs[f]? = some fn) :
    true = Tryz.pinned.checked.prog.looks [] ∧ ∀ (j : Nat) t, fn.params[j]? = some t → Tryz.pinned.checked.prog.wantsStandIn t = false := by
  obtain rfl : f = 4 := Option.some.inj ((show Tryz.prog.funcNamed "sluice/sluicelaw01.StampTwo" = some 4 by kernel_rfl).symm.trans hf) |>.symm
  obtain rfl : fn = Tryz.f4 := (Option.some.inj (Tryz.func4.symm.trans hfn)).symm
  refine ⟨by kernel_rfl, fun j t ht => ?_⟩
  rw [Tryz.params4] at ht
  have hm : t ∈ [25, 3] := by have := Array.mem_of_getElem? ht; simp at this ⊢; omega
  have hall : ([25, 3].all fun u => !Tryz.prog.wantsStandIn u) = true := by kernel_rfl
  exact (show Tryz.prog.wantsStandIn t = false by simpa using List.all_eq_true.1 hall t hm)

/-- The card. -/
theorem stampTwo_card : Rows.StampTwoCardSaid :=
  Claim7.holds_tied_plain_at .later [] _ _ _ _ two_said (fun _ h => by cases h) (by kernel_rfl) (fun _ h => by cases h) stampTwo_row_tie rfl ⟨rfl, rfl⟩ (by kernel_rfl) rfl two_plain (by kernel_rfl)
#print axioms stampTwo_card
end Go.Proofs.YtiiegpklpmogmaaGreatDoor
