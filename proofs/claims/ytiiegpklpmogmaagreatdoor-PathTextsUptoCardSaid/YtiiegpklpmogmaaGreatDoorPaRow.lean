/- Paths and cases as data. -/
import Derived.Test.YtiiegpklpmogmaaGreatDoorStRow
import Derived.Test.YtiiegpklpmogmaaGreatDoorPa1
set_option linter.unusedVariables false
set_option linter.unusedSimpArgs false
namespace Go.Proofs.YtiiegpklpmogmaaGreatDoor
open Go.ChangeShapes Go.WideShapes Go.ChangeAt Go.RowKit Go.Deep

theorem pt_cellsOf : Tryz.prog.cellsOf 40 = 3 := by kernel_rfl
theorem case_cellsOf : Tryz.prog.cellsOf 42 = 16 := by kernel_rfl
theorem int_cellsOf : Tryz.prog.cellsOf 3 = 1 := by kernel_rfl

section
variable {H : Type} {enc : TypeId × Value → H} {W : World} {base : Nat} {sp : Nat → Bool} {held : Bool}

theorem trod_pt {fuel : Nat} {cs : List Value} {x : DataW H × List MemPlace} (h : DataW.trod enc Tryz.prog W base sp held fuel 40 cs = some x) : ∃ t : Tm, cs = tmCells t ∧ x = (tmD t, []) ∧ t.ok := by
  obtain ⟨y0, y1, y2, n, rfl, hl, h0, h1, h2⟩ := trod_struct3 Tryz.underlying40 h
  rw [pt_cellsOf] at hl
  rcases cs with _ | ⟨u, _ | ⟨v, _ | ⟨z, _ | ⟨_, _⟩⟩⟩⟩
  · cases hl
  · cases hl
  · cases hl
  · have h0 : DataW.trod enc Tryz.prog W base sp held n 23 [u] = some y0 := by rw [u64_cellsOf] at h0; exact h0
    have h1 : DataW.trod enc Tryz.prog W base sp held n 23 [v] = some y1 := by rw [u64_cellsOf] at h1; exact h1
    have h2 : DataW.trod enc Tryz.prog W base sp held n 23 [z] = some y2 := by rw [u64_cellsOf] at h2; exact h2
    obtain ⟨a, e0, rfl, w0⟩ := DataW.trod_int Tryz.underlying23 h0
    obtain ⟨b, e1, rfl, w1⟩ := DataW.trod_int Tryz.underlying23 h1
    obtain ⟨c, e2, rfl, w2⟩ := DataW.trod_int Tryz.underlying23 h2
    injection e0 with e0 _
    injection e1 with e1 _
    injection e2 with e2 _
    subst e0; subst e1; subst e2
    exact ⟨⟨a, b, c⟩, rfl, rfl, u64_wf w0, u64_wf w1, u64_wf w2⟩
  · simp at hl
theorem open_pt {v : Value} {d : DataW H} {ps : List MemPlace} (h : DataW.Trod enc Tryz.prog W base sp held 40 v d ps) : ∃ t : Tm, v = tmV t ∧ d = tmD t ∧ ps = [] ∧ t.ok := by
  obtain ⟨fuel, h⟩ := h
  obtain ⟨t, hc, hx, hok⟩ := trod_pt h
  injection hx with h1 h2
  refine ⟨t, ?_, h1, h2, hok⟩
  cases v with
  | agg cs =>
    obtain ⟨l⟩ := cs
    have : l = tmCells t := hc
    subst this
    rfl
  | _ => simp [Value.cells, tmCells] at hc
theorem trod_pt_mk (n : Nat) {t : Tm} (h : t.ok) : DataW.trod enc Tryz.prog W base sp held (n + 2) 40 (tmCells t) = some (tmD t, []) := by
  have := trod_struct3_mk (enc := enc) (w := W) (base := base) (spare := sp) (held := held) (n := n + 1) (cs := tmCells t) (y0 := (.lit (.int .u64 t.a), [])) (y1 := (.lit (.int .u64 t.b), [])) (y2 := (.lit (.int .u64 t.c), [])) Tryz.underlying40 (by rw [pt_cellsOf]; rfl)
    (by rw [u64_cellsOf]; exact trod_int_mk n Tryz.underlying23 (wf_u64 h.1))
    (by rw [u64_cellsOf]; exact trod_int_mk n Tryz.underlying23 (wf_u64 h.2.1))
    (by rw [u64_cellsOf]; exact trod_int_mk n Tryz.underlying23 (wf_u64 h.2.2))
  exact this
theorem shut_pt {t : Tm} (h : t.ok) : DataW.Trod enc Tryz.prog W base sp held 40 (tmV t) (tmD t) [] := ⟨2, trod_pt_mk 0 h⟩

/-- A case: three paths, two times, an arity. -/
structure Cs where
  p : Tm
  q : Tm
  r : Tm
  t : Tm
  u : Tm
  n : Int
def Cs.cells (c : Cs) : List Value := tmCells c.p ++ (tmCells c.q ++ (tmCells c.r ++ (tmCells c.t ++ (tmCells c.u ++ [.int .i64 c.n]))))
def csV (c : Cs) : Value := .agg c.cells.toArray
def csD (c : Cs) : DataW H := .agg [tmD c.p, tmD c.q, tmD c.r, tmD c.t, tmD c.u, .lit (.int .i64 c.n)]
def Cs.ok (c : Cs) : Prop := c.p.ok ∧ c.q.ok ∧ c.r.ok ∧ c.t.ok ∧ c.u.ok ∧ (Lit.int .i64 c.n).wf = true
def cs0 : Cs := ⟨tm0, tm0, tm0, tm0, tm0, 0⟩

theorem open_case {v : Value} {d : DataW H} {ps : List MemPlace} (h : DataW.Trod enc Tryz.prog W base sp held 42 v d ps) : ∃ c : Cs, v = csV c ∧ d = csD c ∧ ps = [] ∧ c.ok := by
  obtain ⟨fuel, h⟩ := h
  obtain ⟨xs, n, _, hx, hl, hlen, hf⟩ := DataW.trod_struct Tryz.underlying42 h
  rw [case_cellsOf] at hl
  generalize hcs : v.cells.toList = cs at hf hl
  match xs, hlen, hf, hx with
  | [y0, y1, y2, y3, y4, y5], _, hf, hx =>
    have g0 : DataW.trod enc Tryz.prog W base sp held n 40 (cs.take (Tryz.prog.cellsOf 40)) = some y0 := hf 0 _ rfl
    have g1 : DataW.trod enc Tryz.prog W base sp held n 40 ((cs.drop 3).take (Tryz.prog.cellsOf 40)) = some y1 := hf 1 _ rfl
    have g2 : DataW.trod enc Tryz.prog W base sp held n 40 ((cs.drop 6).take (Tryz.prog.cellsOf 40)) = some y2 := hf 2 _ rfl
    have g3 : DataW.trod enc Tryz.prog W base sp held n 25 ((cs.drop 9).take (Tryz.prog.cellsOf 25)) = some y3 := hf 3 _ rfl
    have g4 : DataW.trod enc Tryz.prog W base sp held n 25 ((cs.drop 12).take (Tryz.prog.cellsOf 25)) = some y4 := hf 4 _ rfl
    have g5 : DataW.trod enc Tryz.prog W base sp held n 3 ((cs.drop 15).take (Tryz.prog.cellsOf 3)) = some y5 := hf 5 _ rfl
    rw [pt_cellsOf] at g0 g1 g2
    rw [tm_cellsOf] at g3 g4
    rw [int_cellsOf] at g5
    obtain ⟨p, e0, k0, o0⟩ := trod_pt g0
    obtain ⟨q, e1, k1, o1⟩ := trod_pt g1
    obtain ⟨r, e2, k2, o2⟩ := trod_pt g2
    obtain ⟨t, e3, k3, o3⟩ := trod_tm g3
    obtain ⟨u, e4, k4, o4⟩ := trod_tm g4
    obtain ⟨m, e5, k5, o5⟩ := DataW.trod_int Tryz.underlying3 g5
    subst k0; subst k1; subst k2; subst k3; subst k4; subst k5
    simp only [Prod.mk.injEq] at hx
    have hcat : cs = (Cs.mk p q r t u m).cells := by
      unfold Cs.cells
      simp only
      rw [← e0, ← e1, ← e2, ← e3, ← e4, ← e5]
      have s1 := List.take_append_drop 3 cs
      have s2 := List.take_append_drop 3 (cs.drop 3)
      have s3 := List.take_append_drop 3 (cs.drop 6)
      have s4 := List.take_append_drop 3 (cs.drop 9)
      have s5 := List.take_append_drop 3 (cs.drop 12)
      have s6 : (cs.drop 15).take 1 = cs.drop 15 := List.take_of_length_le (by simp; omega)
      simp only [List.drop_drop, Nat.reduceAdd] at s2 s3 s4 s5
      rw [s6, s5, s4, s3, s2, s1]
    refine ⟨⟨p, q, r, t, u, m⟩, ?_, by simpa [csD] using hx.1, by simpa using hx.2, o0, o1, o2, o3, o4, o5⟩
    cases v with
    | agg a =>
      obtain ⟨l⟩ := a
      have : l = cs := hcs
      rw [this, hcat]
      rfl
    | _ => simp [Value.cells] at hcs; subst hcs; simp at hl
theorem shut_case {c : Cs} (h : c.ok) : DataW.Trod enc Tryz.prog W base sp held 42 (csV c) (csD c) [] := by
  obtain ⟨o0, o1, o2, o3, o4, o5⟩ := h
  refine ⟨3, ?_⟩
  have := trod_struct_mk (enc := enc) (w := W) (base := base) (spare := sp) (held := held) (n := 2) (cs := c.cells) (xs := [(tmD c.p, []), (tmD c.q, []), (tmD c.r, []), (tmD c.t, []), (tmD c.u, []), (.lit (.int .i64 c.n), [])]) Tryz.underlying42 (by rw [case_cellsOf]; rfl) (by
    have g0 := trod_pt_mk (enc := enc) (W := W) (base := base) (sp := sp) (held := held) 0 o0
    have g1 := trod_pt_mk (enc := enc) (W := W) (base := base) (sp := sp) (held := held) 0 o1
    have g2 := trod_pt_mk (enc := enc) (W := W) (base := base) (sp := sp) (held := held) 0 o2
    have g3 := trod_tm_mk (enc := enc) (W := W) (base := base) (sp := sp) (held := held) 0 o3
    have g4 := trod_tm_mk (enc := enc) (W := W) (base := base) (sp := sp) (held := held) 0 o4
    have g5 := trod_int_mk (enc := enc) (w := W) (base := base) (spare := sp) (held := held) 1 Tryz.underlying3 o5
    have c0 : (c.cells.drop 0).take 3 = tmCells c.p := rfl
    have c1 : (c.cells.drop 3).take 3 = tmCells c.q := rfl
    have c2 : (c.cells.drop 6).take 3 = tmCells c.r := rfl
    have c3 : (c.cells.drop 9).take 3 = tmCells c.t := rfl
    have c4 : (c.cells.drop 12).take 3 = tmCells c.u := rfl
    have c5 : (c.cells.drop 15).take 1 = [.int .i64 c.n] := rfl
    simp only [pt_cellsOf, tm_cellsOf, int_cellsOf, List.mapM_cons, List.mapM_nil, c0, c1, c2, c3, c4, c5, g0, g1, g2, g3, g4, g5]
    rfl)
  have h2 : DataW.trod enc Tryz.prog W base sp held 3 42 c.cells = some (csD c, []) := by simpa [csD] using this
  exact h2
end
end Go.Proofs.YtiiegpklpmogmaaGreatDoor
