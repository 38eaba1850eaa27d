/- PathCovers: of each path of a list one of the least is at or ahead; each of these is in the list; of two of them none is at or ahead of the other; they are told in order; the least of them are they. Conditions: none but the row's own (the library's listed variables hold what the program's text lays, which the card ties). -/
import Derived.Test.YtiiegpklpmogmaaGreatDoorPaCovRow
import Derived.Test.YtiiegpklpmogmaaGreatDoorPaList
import Derived.Test.YtiiegpklpmogmaaGreatDoorCards
import Derived.Test.YtiiegpklpmogmaaGreatDoorTie
import Derived.SevenTiedAt
import Derived.ChangeMaps5
set_option linter.unusedVariables false
set_option linter.unusedSimpArgs false
namespace Go.Proofs.YtiiegpklpmogmaaGreatDoor
open Go.ChangeShapes Go.WideShapes Go.ChangeAt Go.RowKit

theorem covers_met (os : Os) (args : Array Value) : laidMetH Tryz.prog Rows.pathCoversRow.laid ((World.laidAll Tryz.prog os Rows.pathCoversRow.laid).forCall (fun _ _ => 0) ⟨#[], args, []⟩).memory := by
  rw [MakeChecks.laidMetH_plain _ _ _ (by kernel_rfl)]
  exact laidMet_laidAll _ (by kernel_rfl) (by kernel_rfl)

set_option maxRecDepth 100000 in
theorem covers_lifted (os : Os) (started : os.Started) (H : Type) (enc : TypeId × Value → H) (F : Stop.Interp) :
    ReturnsInHanded {} Tryz.checked os 10 .any ((OpenSpec.ofChange Rows.pathCoversSpec).preRow enc Tryz.prog Tryz.f10 Rows.pathCoversRow.domain false Rows.pathCoversRow.laid) (((OpenSpec.ofChange Rows.pathCoversSpec).at F).post enc Tryz.prog Tryz.f10 false true false false) := by
  refine returnsInHanded_of_row (C := Tryz.checked) (s := OpenSpec.ofChange Rows.pathCoversSpec) row_own started (by kernel_rfl) Tryz.func10 ?_ ?_
  · exact ⟨World.laidAll Tryz.prog os Rows.pathCoversRow.laid, fun _ _ => 0, ⟨#[], #[.slice none 0 0], []⟩, World.laidAll_os _ _ _, World.shaped_of_ZipB (by kernel_rfl) (by kernel_rfl), rfl, (Input.okWide_of_okWideB (base := 0) (by kernel_rfl)).2,
      OpenSpec.preRow_of_cond 8 (x := ([.nil], [], [])) (by kernel_rfl) (by kernel_rfl) (fun k hk => by cases hk) (by kernel_rfl) (covers_met os _),
      by simp only [Assume.holds]; exact ⟨by simp, by simp, fun _ => Modest.zero, by simp, by simp⟩⟩
  intro W base args ds gs before hval0 hW _ hcond hsz0 hL hS _
  have hval : ∀ (j : Nat) t v, Tryz.f10.params[j]? = some t → args[j]? = some v → Value.okWide Tryz.prog W .any base t v := hval0
  have hsz : (DataW.weightsEach Tryz.prog (Tryz.f10.params.toList ++ []) (ds ++ gs)).all (· ≤ reachBytes) = true := hsz0
  clear hsz0
  have hW' := hW
  obtain ⟨p, q, hA0, hV, rfl, hfz, hnd⟩ := hW
  have hA : DataW.TrodAll enc Tryz.prog W 0 (fun _ => true) true Tryz.f10.params.toList args.toList ds p := hA0
  rw [Tryz.params10] at hA hval hsz
  obtain ⟨v0, vs0, d0, ds0, p0, q0, hargs, rfl, rfl, h0, r0⟩ := trodAll_cons hA
  obtain ⟨rfl, rfl, rfl⟩ := trodAll_nil r0
  obtain rfl : args = #[v0] := by cases args; simp_all
  obtain ⟨rfl, rfl⟩ := trodVars_none hV
  have k0 := h0
  obtain ⟨A0, n0, c0, x0, rfl, e0, l0, w0, b0⟩ := open_pts (hval 0 53 v0 rfl rfl) h0
  clear h0
  clear hA0 hval0 hval
  simp only [List.append_nil] at hW'
  have z0 : n0 * 24 ≤ 140737488355328 := by
    rcases slice_len Tryz.underlying53 k0 with e | ⟨el, spr, e, hl⟩
    · omega
    · subst e
      have hz := sized_slice hsz (j := 0) (t := 53) (e := 40) rfl rfl Tryz.underlying53
      rw [pt_bytes] at hz
      unfold reachBytes at hz
      omega
  have g0 : ∀ x ∈ p0, x.block < W.heap.size := fun x hx => by simpa using hW'.lt x (by simp [hx])
  have hG : Glob W := glob_of (by kernel_rfl) hL hS (by simp [Rows.pathCoversRow]) (by simp [Rows.pathCoversRow]) (by simp [Rows.pathCoversRow])
  refine (covers_row A0 n0 c0 x0 W hG l0 e0 w0 (by omega)).mono fun e W' ⟨he, hB⟩ => ?_
  subst he
  refine ⟨_, rfl, _, _, _, [], (p0 ++ []), [], hW', ?_, ?_, ?_, hB.frame _, fun h => by cases h⟩
  · exact trodAll_mk1 (shut_bool Tryz.underlying4 true)
  · exact (trodAll_cons_mk (Below.trod row_laid (by kernel_rfl) (of_decide_eq_true (by kernel_rfl)) k0 hB g0) trodAll_mk0)
  · rfl

theorem covers_said : Rows.PathCoversSaid :=
  OpenClaim.holds_of_cond 10 Tryz.f10 rfl rfl rfl rfl rfl rfl rfl ⟨rfl, rfl, rfl, rfl, rfl⟩ rfl rfl rfl rfl rfl (by kernel_rfl) Tryz.func10 (by kernel_rfl)
    (of_decide_eq_true (by kernel_rfl)) (by unfold Func.isWrapper; first | (rw [if_pos (by decide +kernel)]; kernel_rfl) | (rw [if_neg (by decide +kernel)]; exact ⟨rfl, rfl⟩))
    (fun os started H enc _ F => by rw [OpenClaim.pre_eq_preRow]; exact covers_lifted os started H enc F)

theorem covers_plain (f : FuncId) (fn : Func) (hf : Tryz.pinned.checked.prog.funcNamed "sluice/sluicelaw02.PathCovers" = some f) (hfn : Tryz.pinned.checked.prog.funcs[f]? = some fn) :
    true = Tryz.pinned.checked.prog.looks [] ∧ ∀ (j : Nat) t, fn.params[j]? = some t → Tryz.pinned.checked.prog.wantsStandIn t = false := by
  obtain rfl : f = 10 := Option.some.inj ((show Tryz.prog.funcNamed "sluice/sluicelaw02.PathCovers" = some 10 by kernel_rfl).symm.trans hf) |>.symm
  obtain rfl : fn = Tryz.f10 := (Option.some.inj (Tryz.func10.symm.trans hfn)).symm
  refine ⟨by kernel_rfl, fun j t ht => ?_⟩
  rw [Tryz.params10] at ht
  have hm : t ∈ [53] := by have := Array.mem_of_getElem? ht; simpa using this
  have hall : ([53].all fun u => !Tryz.prog.wantsStandIn u) = true := by kernel_rfl
  exact (show Tryz.prog.wantsStandIn t = false by simpa using List.all_eq_true.1 hall t hm)

/-- The card. -/
theorem pathCovers_card : Rows.PathCoversCardSaid :=
  Claim7.holds_tied_plain_at .later [] _ _ _ _ covers_said (fun _ h => by cases h) (by kernel_rfl) (fun _ h => by cases h) pathCovers_row_tie rfl ⟨rfl, rfl⟩ (by kernel_rfl) rfl covers_plain (by kernel_rfl)
#print axioms pathCovers_card
end Go.Proofs.YtiiegpklpmogmaaGreatDoor
