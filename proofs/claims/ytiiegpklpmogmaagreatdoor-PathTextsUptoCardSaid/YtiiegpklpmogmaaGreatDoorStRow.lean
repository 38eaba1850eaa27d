/- Times as data; what a row's condition on the library's variables gives; a world that meets it. -/
import Derived.Test.YtiiegpklpmogmaaGreatDoorSt6
import Derived.Test.YtiiegpklpmogmaaGreatDoorRows
import Derived.ProofKit
import Derived.OpenShut
import Derived.Below
import Derived.Deep.Strs
import Derived.Deep.DeepHandedRow
import Derived.Lay
import Derived.Lib.LaidTab
import Derived.Lib.LaidU8
import Derived.Shelf.Vars
import Derived.Stop.Joined
import Derived.LaidHandle
set_option linter.unusedVariables false
set_option linter.unusedSimpArgs false
namespace Go.Proofs.YtiiegpklpmogmaaGreatDoor
open Go.ChangeShapes Go.WideShapes Go.ChangeAt Go.RowKit Go.Deep

theorem row_own : ownKnob Tryz.prog.godebug = none := by kernel_rfl
theorem tm_cellsOf : Tryz.prog.cellsOf 25 = 3 := by kernel_rfl
theorem u64_cellsOf : Tryz.prog.cellsOf 23 = 1 := by kernel_rfl

section
variable {H : Type} {enc : TypeId × Value → H} {W : World} {base : Nat} {sp : Nat → Bool} {held : Bool}
def tmD (t : Tm) : DataW H := .agg [.lit (.int .u64 t.a), .lit (.int .u64 t.b), .lit (.int .u64 t.c)]

theorem u64_wf {n : Int} (h : (Lit.int .u64 n).wf = true) : 0 ≤ n ∧ n < 18446744073709551616 := by
  have h1 : IntKind.u64.min = 0 := rfl
  have h2 : IntKind.u64.max = 18446744073709551615 := rfl
  simp [Lit.wf, h1, h2] at h
  omega
theorem wf_u64 {n : Int} (h : 0 ≤ n ∧ n < 18446744073709551616) : (Lit.int .u64 n).wf = true := by
  have h1 : IntKind.u64.min = 0 := rfl
  have h2 : IntKind.u64.max = 18446744073709551615 := rfl
  simp [Lit.wf, h1, h2]
  omega

theorem trod_tm {fuel : Nat} {cs : List Value} {x : DataW H × List MemPlace} (h : DataW.trod enc Tryz.prog W base sp held fuel 25 cs = some x) : ∃ t : Tm, cs = tmCells t ∧ x = (tmD t, []) ∧ t.ok := by
  obtain ⟨y0, y1, y2, n, rfl, hl, h0, h1, h2⟩ := trod_struct3 Tryz.underlying25 h
  rw [tm_cellsOf] at hl
  rcases cs with _ | ⟨u, _ | ⟨v, _ | ⟨z, _ | ⟨_, _⟩⟩⟩⟩
  · cases hl
  · cases hl
  · cases hl
  · have h0 : DataW.trod enc Tryz.prog W base sp held n 23 [u] = some y0 := by rw [u64_cellsOf] at h0; exact h0
    have h1 : DataW.trod enc Tryz.prog W base sp held n 23 [v] = some y1 := by rw [u64_cellsOf] at h1; exact h1
    have h2 : DataW.trod enc Tryz.prog W base sp held n 23 [z] = some y2 := by rw [u64_cellsOf] at h2; exact h2
    obtain ⟨a, e0, rfl, w0⟩ := DataW.trod_int Tryz.underlying23 h0
    obtain ⟨b, e1, rfl, w1⟩ := DataW.trod_int Tryz.underlying23 h1
    obtain ⟨c, e2, rfl, w2⟩ := DataW.trod_int Tryz.underlying23 h2
    injection e0 with e0 _
    injection e1 with e1 _
    injection e2 with e2 _
    subst e0; subst e1; subst e2
    exact ⟨⟨a, b, c⟩, rfl, rfl, u64_wf w0, u64_wf w1, u64_wf w2⟩
  · simp at hl

theorem open_tm {v : Value} {d : DataW H} {ps : List MemPlace} (h : DataW.Trod enc Tryz.prog W base sp held 25 v d ps) : ∃ t : Tm, v = tmV t ∧ d = tmD t ∧ ps = [] ∧ t.ok := by
  obtain ⟨fuel, h⟩ := h
  obtain ⟨t, hc, hx, hok⟩ := trod_tm h
  injection hx with h1 h2
  refine ⟨t, ?_, h1, h2, hok⟩
  cases v with
  | agg cs =>
    obtain ⟨l⟩ := cs
    have : l = tmCells t := hc
    subst this
    rfl
  | _ => simp [Value.cells, tmCells] at hc

theorem trod_tm_mk (n : Nat) {t : Tm} (h : t.ok) : DataW.trod enc Tryz.prog W base sp held (n + 2) 25 (tmCells t) = some (tmD t, []) := by
  have := trod_struct3_mk (enc := enc) (w := W) (base := base) (spare := sp) (held := held) (n := n + 1) (cs := tmCells t) (y0 := (.lit (.int .u64 t.a), [])) (y1 := (.lit (.int .u64 t.b), [])) (y2 := (.lit (.int .u64 t.c), [])) Tryz.underlying25 (by rw [tm_cellsOf]; rfl)
    (by rw [u64_cellsOf]; exact trod_int_mk n Tryz.underlying23 (wf_u64 h.1))
    (by rw [u64_cellsOf]; exact trod_int_mk n Tryz.underlying23 (wf_u64 h.2.1))
    (by rw [u64_cellsOf]; exact trod_int_mk n Tryz.underlying23 (wf_u64 h.2.2))
  exact this
theorem shut_tm {t : Tm} (h : t.ok) : DataW.Trod enc Tryz.prog W base sp held 25 (tmV t) (tmD t) [] := ⟨2, trod_tm_mk 0 h⟩
end

/-! ### The listed variables -/
theorem g_tab : Tryz.prog.globalNamed "internal/strconv.uint64pow10" = some 1 := by kernel_rfl
theorem g_syn : Tryz.prog.globalNamed "strconv.ErrSyntax" = some 2 := by kernel_rfl
theorem g_rng : Tryz.prog.globalNamed "strconv.ErrRange" = some 3 := by kernel_rfl
theorem t_tab : (Tryz.prog.globals[1]?).map (·.type) = some 176 := by kernel_rfl
theorem t_syn : (Tryz.prog.globals[2]?).map (·.type) = some 106 := by kernel_rfl
theorem t_rng : (Tryz.prog.globals[3]?).map (·.type) = some 106 := by kernel_rfl
theorem c_tab : Tryz.prog.cellsOf 176 = 20 := by kernel_rfl
theorem d_tab : (Rows.laid_internal_strconv_uint64pow10 : DataW Unit) = Lib.tabData .u64 Lib.pow10Tab := by kernel_rfl

theorem sentinel_cell {w : World} {n : String} {g : Nat} {nm : String} {d : DataW Unit} (h : Lib.VarReads Tryz.prog w n (.iface nm d)) (hg : Tryz.prog.globalNamed n = some g) (ht : (Tryz.prog.globals[g]?).map (·.type) = some 106) :
    ∃ te pe, w.cell? ⟨g, 0, none⟩ = some (.iface te pe) := by
  obtain ⟨g', t, cs, fuel, p, h1, h2, h3, h4⟩ := h
  obtain rfl := Option.some.inj (hg.symm.trans h1)
  obtain rfl := Option.some.inj (ht.symm.trans h2)
  obtain ⟨_, u, v, hc, _⟩ := iface_of_trod Tryz.underlying106 h4
  refine ⟨u, v, ?_⟩
  have := World.var?_cell hg h3 0
  rw [Array.eq_one_of_toList hc] at this
  simpa using this

theorem glob_of {w : World} {l : List (String × DataW Unit)} (hp : (l.filter fun x => x.2.handleName?.isSome) = []) (h : laidMetH Tryz.prog l w) (hs : w.ShapedOpen Tryz.prog)
    (m1 : ("internal/strconv.uint64pow10", Rows.laid_internal_strconv_uint64pow10) ∈ l) (m2 : ("strconv.ErrSyntax", Rows.laid_strconv_ErrSyntax) ∈ l) (m3 : ("strconv.ErrRange", Rows.laid_strconv_ErrRange) ∈ l) : Glob w := by
  have hb : 8 < w.heap.size := by
    obtain ⟨o, _, ho, _⟩ := hs.2 8 (of_decide_eq_true (by kernel_rfl)) (of_decide_eq_true (by kernel_rfl))
    exact (Array.getElem?_eq_some_iff.1 ho).1
  unfold laidMetH at h
  rw [hp] at h
  have h' : laidMet Tryz.prog l w := h
  refine ⟨?_, sentinel_cell (Lib.laidMet.reads h' m2) g_syn t_syn, sentinel_cell (Lib.laidMet.reads h' m3) g_rng t_rng, ?_, hb⟩
  · obtain ⟨g', t, cs, fuel, p, h1, h2, h3, h4⟩ := Lib.laidMet.reads h' m1
    obtain rfl := Option.some.inj (g_tab.symm.trans h1)
    obtain rfl := Option.some.inj (t_tab.symm.trans h2)
    rw [d_tab] at h4
    unfold Lib.TabIs
    rw [h3, ← Lib.cells_of_tab Tryz.underlying176 Tryz.underlying23 u64_cellsOf c_tab h4]
  · exact cell_of_shapedOpen_int hs (of_decide_eq_true (by kernel_rfl)) (zero := #[.int .i64 0]) (t := 3) (by kernel_rfl) rfl (by kernel_rfl) (by kernel_rfl) Tryz.underlying3
end Go.Proofs.YtiiegpklpmogmaaGreatDoor
