/- PathPlays: the sums, the order, the fits of package path answer as those of the reference do, and a path that is not empty advances. Conditions: none but the row's own (the library's listed variables hold what the program's text lays, which the card ties). -/
import Derived.Test.YtiiegpklpmogmaaGreatDoorPa9
import Derived.Test.YtiiegpklpmogmaaGreatDoorPaRow
import Derived.Test.YtiiegpklpmogmaaGreatDoorCards
import Derived.Test.YtiiegpklpmogmaaGreatDoorTie
import Derived.SevenTiedAt
import Derived.ChangeMaps5
set_option linter.unusedVariables false
set_option linter.unusedSimpArgs false
namespace Go.Proofs.YtiiegpklpmogmaaGreatDoor
open Go.ChangeShapes Go.WideShapes Go.ChangeAt Go.RowKit

theorem plays_at (c : Cs) (w : World) (hg : Glob w) (h : c.ok) :
    Calls Tryz.prog 5 #[csV c] w fun e w' => e = .returned (.bool true) ∧ Below w.heap.size w w' := by
  obtain ⟨op, oq, or, ot, ou, _⟩ := h
  obtain ⟨p, q, r, t, u, n⟩ := c
  refine plays_walk p.a p.b p.c q.a q.b q.c r.a r.b r.c t.a t.b t.c u.a u.b u.c n (sumT p q).a (sumT p q).b (sumT p q).c (sumT p t).a (sumT p t).b (sumT p t).c
    (cmpV p q) (fitsV p.a p.b p.c n) (fitsB p q) (fitsB p t) (aheadB p q) (decide (p = tm0)) w hg
    (Lib.hid fun W => then_at p q op oq W) (Lib.hid fun W => r2then_at p q op oq W) (Lib.hid fun W => on_at p t op ot W) (Lib.hid fun W => r2on_at p t op ot W)
    (Lib.hid fun W => pahead_at p q W) (Lib.hid fun W => r2ahead_at p q W) (Lib.hid fun W => pcompare_at p q W) (Lib.hid fun W => r2compare_at p q W)
    (Lib.hid fun W => advances_at p W) (Lib.hid fun W => pfits_at p.a p.b p.c n W) (Lib.hid fun W => r2fits_at p.a p.b p.c n W)
    (Lib.hid fun W => ?_) (Lib.hid fun W => ?_) (Lib.hid fun W => ?_)
  · have h := pt_eql (sumT p q) (sumT p q) W
    rw [decide_eq_true rfl] at h
    exact h
  · have h := tm_eql (sumT p t) (sumT p t) W
    rw [decide_eq_true rfl] at h
    exact h
  · exact pt_neq p tm0 W


theorem plays_met (os : Os) (args : Array Value) : laidMetH Tryz.prog Rows.pathPlaysRow.laid ((World.laidAll Tryz.prog os Rows.pathPlaysRow.laid).forCall (fun _ _ => 0) ⟨#[], args, []⟩).memory := by
  rw [MakeChecks.laidMetH_plain _ _ _ (by kernel_rfl)]
  exact laidMet_laidAll _ (by kernel_rfl) (by kernel_rfl)

set_option maxRecDepth 100000 in
theorem plays_lifted (os : Os) (started : os.Started) (H : Type) (enc : TypeId × Value → H) (F : Stop.Interp) :
    ReturnsInHanded {} Tryz.checked os 5 .any ((OpenSpec.ofChange Rows.pathPlaysSpec).preRow enc Tryz.prog Tryz.f5 Rows.pathPlaysRow.domain false Rows.pathPlaysRow.laid) (((OpenSpec.ofChange Rows.pathPlaysSpec).at F).post enc Tryz.prog Tryz.f5 false true false false) := by
  refine returnsInHanded_of_row (C := Tryz.checked) (s := OpenSpec.ofChange Rows.pathPlaysSpec) row_own started (by kernel_rfl) Tryz.func5 ?_ ?_
  · exact ⟨World.laidAll Tryz.prog os Rows.pathPlaysRow.laid, fun _ _ => 0, ⟨#[], #[csV cs0], []⟩, World.laidAll_os _ _ _, World.shaped_of_ZipB (by kernel_rfl) (by kernel_rfl), rfl, (Input.okWide_of_okWideB (base := 0) (by kernel_rfl)).2,
      OpenSpec.preRow_of_cond 8 (x := ([csD cs0], [], [])) (by kernel_rfl) (by kernel_rfl) (fun k hk => by cases hk) (by kernel_rfl) (plays_met os _),
      by simp only [Assume.holds]; exact ⟨by simp, by simp, fun _ => Modest.zero, by simp, by simp⟩⟩
  intro W base args ds gs before hval0 hW _ hcond hsz0 hL hS _
  have hval : ∀ (j : Nat) t v, Tryz.f5.params[j]? = some t → args[j]? = some v → Value.okWide Tryz.prog W .any base t v := hval0
  have hW' := hW
  obtain ⟨p, q, hA0, hV, rfl, hfz, hnd⟩ := hW
  have hA : DataW.TrodAll enc Tryz.prog W 0 (fun _ => true) true Tryz.f5.params.toList args.toList ds p := hA0
  rw [Tryz.params5] at hA hval
  obtain ⟨v0, vs0, d0, ds0, p0, q0, hargs, rfl, rfl, h0, r0⟩ := trodAll_cons hA
  obtain ⟨rfl, rfl, rfl⟩ := trodAll_nil r0
  obtain rfl : args = #[v0] := by cases args; simp_all
  obtain ⟨rfl, rfl⟩ := trodVars_none hV
  obtain ⟨x0, rfl, rfl, rfl, w0⟩ := open_case h0
  clear hA0 hval0 hval
  simp only [List.append_nil] at hW'
  have hG : Glob W := glob_of (by kernel_rfl) hL hS (by simp [Rows.pathPlaysRow]) (by simp [Rows.pathPlaysRow]) (by simp [Rows.pathPlaysRow])
  refine (plays_at x0 W hG w0).mono fun e W' ⟨he, hB⟩ => ?_
  subst he
  refine ⟨_, rfl, _, _, _, [], [], [], hW', ?_, ?_, ?_, hB.frame _, fun h => by cases h⟩
  · exact trodAll_mk1 (shut_bool Tryz.underlying4 true)
  · exact (trodAll_cons_mk (shut_case w0) trodAll_mk0)
  · rfl

theorem plays_said : Rows.PathPlaysSaid :=
  OpenClaim.holds_of_cond 5 Tryz.f5 rfl rfl rfl rfl rfl rfl rfl ⟨rfl, rfl, rfl, rfl, rfl⟩ rfl rfl rfl rfl rfl (by kernel_rfl) Tryz.func5 (by kernel_rfl)
    (of_decide_eq_true (by kernel_rfl)) (by unfold Func.isWrapper; first | (rw [if_pos (by decide +kernel)]; kernel_rfl) | (rw [if_neg (by decide +kernel)]; exact ⟨rfl, rfl⟩))
    (fun os started H enc _ F => by rw [OpenClaim.pre_eq_preRow]; exact plays_lifted os started H enc F)

theorem plays_plain (f : FuncId) (fn : Func) (hf : Tryz.pinned.checked.prog.funcNamed "sluice/sluicelaw02.PathPlays" = some f) (hfn : Tryz.pinned.checked.prog.funcs[f]? = some fn) :
    true = Tryz.pinned.checked.prog.looks [] ∧ ∀ (j : Nat) t, fn.params[j]? = some t → Tryz.pinned.checked.prog.wantsStandIn t = false := by
  obtain rfl : f = 5 := Option.some.inj ((show Tryz.prog.funcNamed "sluice/sluicelaw02.PathPlays" = some 5 by kernel_rfl).symm.trans hf) |>.symm
  obtain rfl : fn = Tryz.f5 := (Option.some.inj (Tryz.func5.symm.trans hfn)).symm
  refine ⟨by kernel_rfl, fun j t ht => ?_⟩
  rw [Tryz.params5] at ht
  have hm : t ∈ [42] := by have := Array.mem_of_getElem? ht; simpa using this
  have hall : ([42].all fun u => !Tryz.prog.wantsStandIn u) = true := by kernel_rfl
  exact (show Tryz.prog.wantsStandIn t = false by simpa using List.all_eq_true.1 hall t hm)

/-- The card. -/
theorem pathPlays_card : Rows.PathPlaysCardSaid :=
  Claim7.holds_tied_plain_at .later [] _ _ _ _ plays_said (fun _ h => by cases h) (by kernel_rfl) (fun _ h => by cases h) pathPlays_row_tie rfl ⟨rfl, rfl⟩ (by kernel_rfl) rfl plays_plain (by kernel_rfl)
#print axioms pathPlays_card
end Go.Proofs.YtiiegpklpmogmaaGreatDoor
