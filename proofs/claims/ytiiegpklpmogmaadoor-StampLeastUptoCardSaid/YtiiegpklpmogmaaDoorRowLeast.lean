/- StampLeast: a front rises in the order of telling, none of its times is at or ahead of another, each is one of the list; each time of the list is open at it; a time is open at the list just if it is at the front; of any list of bulk at most 1048576. Conditions: the second form's bound on what the row reads, and the row's own (the library's listed variables hold what the program's text lays, which the card ties). -/
import Derived.Test.YtiiegpklpmogmaaDoorStLeastRow
import Derived.Test.YtiiegpklpmogmaaDoorStList
import Derived.Test.YtiiegpklpmogmaaDoorCards
import Derived.Test.YtiiegpklpmogmaaDoorTie
import Derived.SevenTiedAt
import Derived.ChangeMaps5
set_option linter.unusedVariables false
set_option linter.unusedSimpArgs false
namespace Go.Proofs.YtiiegpklpmogmaaDoor
open Go.ChangeShapes Go.WideShapes Go.ChangeAt Go.RowKit

theorem least_met (os : Os) (args : Array Value) : laidMetH Tryd.prog Rows.stampLeastUptoRow.laid ((World.laidAll Tryd.prog os Rows.stampLeastUptoRow.laid).forCall (fun _ _ => 0) ⟨#[], args, []⟩).memory := by
  rw [MakeChecks.laidMetH_plain _ _ _ (by kernel_rfl)]
  exact laidMet_laidAll _ (by kernel_rfl) (by kernel_rfl)

set_option maxRecDepth 100000 in
theorem least_lifted (os : Os) (started : os.Started) (H : Type) (enc : TypeId × Value → H) (F : Stop.Interp) :
    ReturnsInHanded {} Tryd.checked os 4 .any ((Rows.OpenSpec.upto Rows.stampLeastSpec).preRow enc Tryd.prog Tryd.f4 Rows.stampLeastUptoRow.domain false Rows.stampLeastUptoRow.laid) (((Rows.OpenSpec.upto Rows.stampLeastSpec).at F).post enc Tryd.prog Tryd.f4 false true false false) := by
  refine returnsInHanded_of_row (C := Tryd.checked) (s := Rows.OpenSpec.upto Rows.stampLeastSpec) row_own started (by kernel_rfl) Tryd.func4 ?_ ?_
  · exact ⟨World.laidAll Tryd.prog os Rows.stampLeastUptoRow.laid, fun _ _ => 0, ⟨#[], #[.slice none 0 0, tmV tm0], []⟩, World.laidAll_os _ _ _, World.shaped_of_ZipB (by kernel_rfl) (by kernel_rfl), rfl, (Input.okWide_of_okWideB (base := 0) (by kernel_rfl)).2,
      OpenSpec.preRow_of_cond 8 (x := ([.nil, tmD tm0], [], [])) (by kernel_rfl) (by kernel_rfl) (fun k hk => by cases hk; kernel_rfl) (by kernel_rfl) (least_met os _),
      by simp only [Assume.holds]; exact ⟨by simp, by simp, fun _ => Modest.zero, by simp, by simp⟩⟩
  intro W base args ds gs before hval0 hW _ hcond _ hL hS _
  have hval : ∀ (j : Nat) t v, Tryd.f4.params[j]? = some t → args[j]? = some v → Value.okWide Tryd.prog W .any base t v := hval0
  have hW' := hW
  obtain ⟨p, q, hA0, hV, rfl, hfz, hnd⟩ := hW
  have hA : DataW.TrodAll enc Tryd.prog W 0 (fun _ => true) true Tryd.f4.params.toList args.toList ds p := hA0
  rw [Tryd.params4] at hA hval
  obtain ⟨v0, vs0, d0, ds0, p0, q0, hargs, rfl, rfl, h0, r0⟩ := trodAll_cons hA
  obtain ⟨v1, vs1, d1, ds1, p1, q1, rfl, rfl, rfl, h1, r1⟩ := trodAll_cons r0
  obtain ⟨rfl, rfl, rfl⟩ := trodAll_nil r1
  obtain rfl : args = #[v0, v1] := by cases args; simp_all
  obtain ⟨rfl, rfl⟩ := trodVars_none hV
  have k0 := h0
  obtain ⟨A0, n0, c0, x0, rfl, e0, l0, w0, b0⟩ := open_tms (hval 0 36 v0 rfl rfl) h0
  clear h0
  obtain ⟨x1, rfl, rfl, rfl, w1⟩ := open_tm h1
  have hbulk := hcond _ rfl
  simp [Rows.uptoSmall, Rows.uptoBulkAll, Rows.uptoBulk, tmD] at hbulk
  clear hcond
  clear hA0 hval0 hval
  simp only [List.append_nil] at hW'
  have g0 : ∀ x ∈ p0, x.block < W.heap.size := fun x hx => by simpa using hW'.lt x (by simp [hx])
  have hG : Glob W := glob_of (by kernel_rfl) hL hS (by simp [Rows.stampLeastUptoRow]) (by simp [Rows.stampLeastUptoRow]) (by simp [Rows.stampLeastUptoRow])
  refine (least_row A0 n0 c0 x0 x1 W hG w1 l0 e0 w0 (by omega)).mono fun e W' ⟨he, hB⟩ => ?_
  subst he
  refine ⟨_, rfl, _, _, _, [], (p0 ++ ([] ++ [])), [], hW', ?_, ?_, ?_, hB.frame _, fun h => by cases h⟩
  · exact trodAll_mk1 (shut_bool Tryd.underlying4 true)
  · exact (trodAll_cons_mk (Below.trod row_laid (by kernel_rfl) (of_decide_eq_true (by kernel_rfl)) k0 hB g0) (trodAll_cons_mk (shut_tm w1) trodAll_mk0))
  · rfl

theorem least_said : Rows.StampLeastUptoSaid :=
  OpenClaim.holds_of_cond 4 Tryd.f4 rfl rfl rfl rfl rfl rfl rfl ⟨rfl, rfl, rfl, rfl, rfl⟩ rfl rfl rfl rfl rfl (by kernel_rfl) Tryd.func4 (by kernel_rfl)
    (of_decide_eq_true (by kernel_rfl)) (by unfold Func.isWrapper; first | (rw [if_pos (by decide +kernel)]; kernel_rfl) | (rw [if_neg (by decide +kernel)]; exact ⟨rfl, rfl⟩))
    (fun os started H enc _ F => by rw [OpenClaim.pre_eq_preRow]; exact least_lifted os started H enc F)

theorem least_plain (f : FuncId) (fn : Func) (hf : Tryd.pinned.checked.prog.funcNamed "sluice/sluicelaw01.StampLeast" = some f) (hfn : Tryd.pinned.checked.prog.funcs[f]? = some fn) :
    true = Tryd.pinned.checked.prog.looks [] ∧ ∀ (j : Nat) t, fn.params[j]? = some t → Tryd.pinned.checked.prog.wantsStandIn t = false := by
  obtain rfl : f = 4 := Option.some.inj ((show Tryd.prog.funcNamed "sluice/sluicelaw01.StampLeast" = some 4 by kernel_rfl).symm.trans hf) |>.symm
  obtain rfl : fn = Tryd.f4 := (Option.some.inj (Tryd.func4.symm.trans hfn)).symm
  refine ⟨by kernel_rfl, fun j t ht => ?_⟩
  rw [Tryd.params4] at ht
  have hm : t ∈ [36, 24] := by have := Array.mem_of_getElem? ht; simpa using this
  have hall : ([36, 24].all fun u => !Tryd.prog.wantsStandIn u) = true := by kernel_rfl
  exact (show Tryd.prog.wantsStandIn t = false by simpa using List.all_eq_true.1 hall t hm)

/-- The card. -/
theorem stampLeastUpto_card : Rows.StampLeastUptoCardSaid :=
  Claim7.holds_tied_plain_at .later [] _ _ _ _ least_said (fun _ h => by cases h) (by kernel_rfl) (fun _ h => by cases h) stampLeastUpto_row_tie rfl ⟨rfl, rfl⟩ (by kernel_rfl) rfl least_plain (by kernel_rfl)
#print axioms stampLeastUpto_card
end Go.Proofs.YtiiegpklpmogmaaDoor
