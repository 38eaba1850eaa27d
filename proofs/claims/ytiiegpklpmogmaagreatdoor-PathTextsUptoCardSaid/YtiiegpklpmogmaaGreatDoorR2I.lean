/- The document's own answer for chapter 2: Parse, its loop. -/
import Derived.Test.YtiiegpklpmogmaaGreatDoorR2H
import Derived.Deep.DeepCutAuto
set_option linter.unusedVariables false
set_option linter.unusedSimpArgs false
namespace Go.Proofs.YtiiegpklpmogmaaGreatDoor
open Go.RowKit

set_option maxHeartbeats 2000000 in
theorem r2parse_arity (s : ByteArray) (n : Int) (w : World) (h : n < 1 ∨ n > 3) :
    Calls Tryz.prog 51 #[.string s, .int .i64 n] w fun e w' => e = .returned (.tuple #[tmV tm0, .int .i64 10]) ∧ Below w.heap.size w w' := by
  by_cases h1 : n < 1
  · have t1 : decide (n < 1) = true := decide_eq_true h1
    clear h
    go_enter Tryz.func51, Tryz.ntmps51
    go_wp2
    have HR := Blk.new w #[.int .u64 0, .int .u64 0, .int .u64 0] 40
    have z0 := HR.cell 0 _ rfl
    have z1 := HR.cell 1 _ rfl
    have z2 := HR.cell 2 _ rfl
    refine bodyPost_ret (v := .tuple #[.agg #[.int .u64 0, .int .u64 0, .int .u64 0], .int .i64 10]) (by simp [results, Tryz.results51, go_sem, z0, z1, z2]) rfl ⟨rfl, by (repeat first | exact Below.refl _ _ | assumption | refine Bel.alloc' ?_ _ | refine Bel.drewN ?_ _ | refine Below.drew ?_ | refine Bel.step' ?_ (by assumption))⟩
  · have t1 : decide (n < 1) = false := decide_eq_false h1
    have t2 : decide (3 < n) = true := decide_eq_true (by omega)
    clear h h1
    go_enter Tryz.func51, Tryz.ntmps51
    go_wp2
    have HR := Blk.new w #[.int .u64 0, .int .u64 0, .int .u64 0] 40
    have z0 := HR.cell 0 _ rfl
    have z1 := HR.cell 1 _ rfl
    have z2 := HR.cell 2 _ rfl
    refine bodyPost_ret (v := .tuple #[.agg #[.int .u64 0, .int .u64 0, .int .u64 0], .int .i64 10]) (by simp [results, Tryz.results51, go_sem, z0, z1, z2]) rfl ⟨rfl, by (repeat first | exact Below.refl _ _ | assumption | refine Bel.alloc' ?_ _ | refine Bel.drewN ?_ _ | refine Below.drew ?_ | refine Bel.step' ?_ (by assumption))⟩

theorem qstep_dig (k : Nat) (p : Q3) (c : UInt8) (h : isDig c) : qstep (k, p) c = some (k, qapp k p [c]) := by unfold qstep; rw [if_pos h]
theorem put_at (l0 l1 l2 : ByteArray) (k : Nat) (hk : k ≤ 2) (c : UInt8) : ∃ lk : ByteArray, (#[Value.string l0, .string l1, .string l2] : Array Value)[k]? = some (.string lk) ∧ (lk = l0 ∨ lk = l1 ∨ lk = l2) ∧
    ∃ m0 m1 m2 : ByteArray, (#[Value.string l0, .string l1, .string l2] : Array Value).setIfInBounds k (.string (lk ++ ⟨#[c]⟩)) = #[.string m0, .string m1, .string m2] ∧
      (m0.size ≤ l0.size + 1 ∧ m1.size ≤ l1.size + 1 ∧ m2.size ≤ l2.size + 1) ∧ qapp k (l0.data.toList, l1.data.toList, l2.data.toList) [c] = (m0.data.toList, m1.data.toList, m2.data.toList) := by
  have hz : ∀ l : ByteArray, (l ++ ⟨#[c]⟩).size = l.size + 1 := fun l => by rw [ByteArray.size_append]; rfl
  rcases (show k = 0 ∨ k = 1 ∨ k = 2 by omega) with rfl | rfl | rfl
  · exact ⟨l0, rfl, .inl rfl, l0 ++ ⟨#[c]⟩, l1, l2, rfl, ⟨by rw [hz]; omega, by omega, by omega⟩, by simp [qapp]⟩
  · exact ⟨l1, rfl, .inr (.inl rfl), l0, l1 ++ ⟨#[c]⟩, l2, rfl, ⟨by omega, by rw [hz]; omega, by omega⟩, by simp [qapp]⟩
  · exact ⟨l2, rfl, .inr (.inr rfl), l0, l1, l2 ++ ⟨#[c]⟩, rfl, ⟨by omega, by omega, by rw [hz]; omega⟩, by simp [qapp]⟩

theorem ex_one (s : ByteArray) (i : Nat) (h : i < s.size) : s.extract i (i + 1) = ⟨#[s[i]]⟩ := by
  apply ByteArray.ext
  rw [ByteArray.data_extract]
  have h' : i < s.data.size := h
  apply Array.ext
  · simp; omega
  · intro j h1 h2
    have : j = 0 := by simp at h2; exact h2
    subst this
    simp
    rfl

/-- What the operations of the digit's region come up with. -/
def r9 (s : ByteArray) (g k i : Nat) (lk : ByteArray) (c : UInt8) (j : Nat) (v : Value) (W : World) : Prop :=
  match j with
  | 0 => v = .slice (some ⟨g, 0, none⟩) 3 3
  | 1 => v = .int .i64 k
  | 2 => v = .pointer (some ⟨g, k, none⟩)
  | 3 => v = .string lk
  | 4 => v = .string s
  | 5 => v = .int .i64 i
  | 6 => v = .int .i64 i
  | 7 => v = .int .i64 (i + 1)
  | 8 => v = .string ⟨#[c]⟩
  | _ => v = .string (lk ++ ⟨#[c]⟩)
theorem r9_stands {s : ByteArray} {g k i : Nat} {lk : ByteArray} {c : UInt8} {j : Nat} {v : Value} {W W' : World} (h : r9 s g k i lk c j v W) : r9 s g k i lk c j v W' := by
  match j with
  | 0 | 1 | 2 | 3 | 4 | 5 | 6 | 7 | 8 => exact h
  | (j + 9) => exact h
/-- What the operations of the last region come up with. -/
def r14 (b P : Nat) (l0 l1 l2 : ByteArray) (x0 x1 x2 : Int) (j : Nat) (v : Value) (W : World) : Prop :=
  match j with
  | 0 => v = .slice (some ⟨P, 0, none⟩) 3 3
  | 1 => v = .pointer (some ⟨P, 0, none⟩)
  | 2 => v = .string l0
  | 3 => v = .int .u64 x0
  | 4 => v = .slice (some ⟨P, 0, none⟩) 3 3
  | 5 => v = .pointer (some ⟨P, 1, none⟩)
  | 6 => v = .string l1
  | 7 => v = .int .u64 x1
  | 8 => v = .slice (some ⟨P, 0, none⟩) 3 3
  | 9 => v = .pointer (some ⟨P, 2, none⟩)
  | 10 => v = .string l2
  | 11 => v = .int .u64 x2
  | 12 => ∃ q, v = .slice (some ⟨q, 0, none⟩) 3 3 ∧ Blk W q #[.int .u64 x0, .int .u64 x1, .int .u64 x2] 23
  | 13 => v = .agg #[.int .u64 x0, .int .u64 x1, .int .u64 x2]
  | _ => ∃ q, v = .pointer (some ⟨q, 0, none⟩) ∧ b ≤ q ∧ Blk W q #[.int .u64 0, .int .u64 0, .int .u64 0] 40
theorem r14_stands {b P : Nat} {l0 l1 l2 : ByteArray} {x0 x1 x2 : Int} {j : Nat} {v : Value} {W W' : World} (h : r14 b P l0 l1 l2 x0 x1 x2 j v W) (hb : Below W.heap.size W W') : r14 b P l0 l1 l2 x0 x1 x2 j v W' := by
  match j with
  | 0 | 1 | 2 | 3 | 4 | 5 | 6 | 7 | 8 | 9 | 10 | 11 | 13 => exact h
  | 12 => obtain ⟨q, e, h1⟩ := h; exact ⟨q, e, h1.later hb⟩
  | (j + 14) => obtain ⟨q, e, h0, h1⟩ := h; exact ⟨q, e, h0, h1.later hb⟩
set_option maxRecDepth 60000 in
theorem bs77 {b P : Nat} {l0 l1 l2 : ByteArray} (A : Act) (W : World) (x0 x1 x2 : Int) (e1 : A.tmps.getD 68 undef = .int .u64 x0) (e2 : A.tmps.getD 72 undef = .int .u64 x1) (e3 : A.tmps.getD 76 undef = .int .u64 x2) (ps : String) (af : Array Edge) :
   Fct.opVal (fun a b => Below a.heap.size a b) Tryz.prog { dst := some 77, op := .buildSlice 79 3 #[(0, .tmp 68), (1, .tmp 72), (2, .tmp 76)], type := 79, pos := ps, after := af, guard := none } A W (r14 b P l0 l1 l2 x0 x1 x2 12) (fun _ _ => False) := by
  unfold Fct.opVal Oper.wp
  simp only [execOp, Act.eval, List.map_toArray, List.map_cons, List.map_nil]
  rw [e1, e2, e3]
  clear e1 e2 e3
  go_simp
  exact ⟨_, rfl, Bel.alloc' (Below.refl _ _) _, ⟨_, rfl, Blk.new _ _ _⟩⟩
set_option maxHeartbeats 16000000 in
set_option maxRecDepth 60000 in
theorem r2parse_in (s : ByteArray) (n : Nat) (w : World) (hs : s.size < 4294967281) (h1 : 1 ≤ n) (h3 : n ≤ 3) :
    Calls Tryz.prog 51 #[.string s, .int .i64 n] w fun e w' => e = .returned (.tuple #[tmV (q2parseV s.data.toList n).1, .int .i64 (q2parseV s.data.toList n).2]) ∧ Below w.heap.size w w' := by
  have t1 : decide ((n : Int) < 1) = false := decide_eq_false (by omega)
  have t2 : decide ((3 : Int) < n) = false := decide_eq_false (by omega)
  have hlen : s.data.toList.length = s.size := Array.length_toList
  go_enter Tryz.func51, Tryz.ntmps51
  go_wp2
  have hR0 := (Blk.new w #[.int .u64 0, .int .u64 0, .int .u64 0] 40).alloc (.cells #[.string ⟨#[]⟩, .string ⟨#[]⟩, .string ⟨#[]⟩] 9)
  have hX0 := Blk.new' (w := w.alloc (.cells #[.int .u64 0, .int .u64 0, .int .u64 0] 40)) (k := w.heap.size + 1) (cs := #[.string ⟨#[]⟩, .string ⟨#[]⟩, .string ⟨#[]⟩]) (t := 9) (by simp)
  have hW0 : Below w.heap.size w ((w.alloc (.cells #[.int .u64 0, .int .u64 0, .int .u64 0] 40)).alloc (.cells #[.string ⟨#[]⟩, .string ⟨#[]⟩, .string ⟨#[]⟩] 9)) := by (repeat first | exact Below.refl _ _ | assumption | refine Bel.alloc' ?_ _ | refine Bel.drewN ?_ _ | refine Below.drew ?_ | refine Bel.step' ?_ (by assumption))
  go_loopw [7, 8] (fun v7 v8 wr => ∃ (i k : Nat) (l0 l1 l2 : ByteArray), i ≤ s.size ∧ k ≤ 2 ∧ v8 = .int .i64 i ∧ v7 = .int .i64 k ∧ Hid (l0.size ≤ i ∧ l1.size ≤ i ∧ l2.size ≤ i) ∧ Hid (qfold (0, [], [], []) (s.data.toList.take i) = some (k, l0.data.toList, l1.data.toList, l2.data.toList)) ∧ Hid (Blk wr (w.heap.size + 1) #[.string l0, .string l1, .string l2] 9) ∧ Hid (Blk wr w.heap.size #[.int .u64 0, .int .u64 0, .int .u64 0] 40) ∧ Below w.heap.size w wr) (fun _ v8 _ => s.size - (intOf v8).toNat)
  case atStart => exact ⟨0, 0, ⟨#[]⟩, ⟨#[]⟩, ⟨#[]⟩, by omega, by omega, rfl, rfl, Lib.hid ⟨Nat.le_refl 0, Nat.le_refl 0, Nat.le_refl 0⟩, Lib.hid rfl, Lib.hid hX0, Lib.hid hR0, hW0⟩
  case round =>
    obtain ⟨i, k, l0, l1, l2, hi, hk, rfl, rfl, HL, HF, HX, HR, hbr⟩ := hrel
    clear hR0 hX0 hW0
    have i0 : 0 ≤ (i : Int) := by omega
    by_cases hlt : i < s.size
    · have il : (i : Int) < s.size := by omega
      have hci : s.data.toList[i]? = some s[i] := by
        rw [List.getElem?_eq_getElem (by omega)]; rfl
      have hst := qfold_snoc HF.out hci
      by_cases cd : isDig s[i]
      · have d1 : decide ((48 : Int) ≤ s[i].toNat) = true := decide_eq_true (by unfold isDig at cd; omega)
        have d2 : decide ((s[i].toNat : Int) ≤ 57) = true := decide_eq_true (by unfold isDig at cd; omega)
        have HS := qstep_dig k (l0.data.toList, l1.data.toList, l2.data.toList) s[i] cd
        rw [HS] at hst
        clear HS
        have HST := Lib.hid hst
        obtain ⟨lk, hlk, hls, m0, m1, m2, hm, hms, hmq⟩ := put_at l0 l1 l2 k hk s[i]
        have HM := Lib.hid hm
        have HMQ := Lib.hid hmq
        have HMS := Lib.hid hms
        have hlki : lk.size ≤ i := by have := HL.out; rcases hls with rfl | rfl | rfl <;> omega
        have hno : ¬ 9223372036854775807 < lk.size + 1 := by omega
        have hxc := HX.out.cell k _ hlk
        clear hst hm hmq hms hls hci cd HF
        go_upto_region 9 with fail
        have hbd := Below.refl wr.heap.size wr
        refine wp_region_facts2 10 (r9 s (w.heap.size + 1) k i lk s[i]) (fun _ _ _ => False) (by kernel_rfl) (by kernel_rfl) (fun j v W W' h hb => r9_stands h) ?op ?en
        case op =>
          simp only [List.take_succ_cons, List.take_zero, Fct.obl]
          refine ⟨fun us W hW hR A' hf => ?_, fun us W hW hR A' hf => ?_, fun us W hW hR A' hf => ?_, fun us W hW hR A' hf => ?_, fun us W hW hR A' hf => ?_, fun us W hW hR A' hf => ?_, fun us W hW hR A' hf => ?_, fun us W hW hR A' hf => ?_, fun us W hW hR A' hf => ?_, fun us W hW hR A' hf => ?_, trivial⟩
          case refine_1 => as_aux_lemma => (have e1 : A'.tmps.getD 6 undef = .slice (some ⟨w.heap.size + 1, 0, none⟩) 3 3 := hf 6; clear hf hR; unfold Fct.opVal; go_simp; exact ⟨_, rfl, Below.refl _ _, rfl⟩)
          case refine_2 => as_aux_lemma => (have e1 : A'.tmps.getD 7 undef = .int .i64 k := hf 7; clear hf hR; unfold Fct.opVal; go_simp; exact ⟨_, rfl, Below.refl _ _, rfl⟩)
          case refine_3 => as_aux_lemma =>
            have e1 : A'.tmps.getD 37 undef = us 0 := hf 37
            have e2 : A'.tmps.getD 38 undef = us 1 := hf 38
            have h1 : us 0 = .slice (some ⟨w.heap.size + 1, 0, none⟩) 3 3 := hR 0 (by kernel_rfl)
            have h2 : us 1 = .int .i64 k := hR 1 (by kernel_rfl)
            rw [h1] at e1
            rw [h2] at e2
            have k3 : (k : Int) < 3 := by omega
            have k0 : 0 ≤ (k : Int) := by omega
            clear hf hR h1 h2
            unfold Fct.opVal
            go_simp
            exact ⟨_, rfl, Below.refl _ _, rfl⟩
          case refine_4 => as_aux_lemma =>
            have e1 : A'.tmps.getD 39 undef = us 2 := hf 39
            have h1 : us 2 = .pointer (some ⟨w.heap.size + 1, k, none⟩) := hR 2 (by kernel_rfl)
            rw [h1] at e1
            have y0 := (HX.out.later hW).cell k _ hlk
            clear hf hR h1 hxc
            unfold Fct.opVal
            go_simp
            exact ⟨_, rfl, Below.refl _ _, rfl⟩
          case refine_5 => as_aux_lemma => (have e1 : A'.tmps.getD 0 undef = .string s := hf 0; clear hf hR; unfold Fct.opVal; go_simp; exact ⟨_, rfl, Below.refl _ _, rfl⟩)
          case refine_6 => as_aux_lemma => (have e1 : A'.tmps.getD 8 undef = .int .i64 i := hf 8; clear hf hR; unfold Fct.opVal; go_simp; exact ⟨_, rfl, Below.refl _ _, rfl⟩)
          case refine_7 => as_aux_lemma => (have e1 : A'.tmps.getD 8 undef = .int .i64 i := hf 8; clear hf hR; unfold Fct.opVal; go_simp; exact ⟨_, rfl, Below.refl _ _, rfl⟩)
          case refine_8 => as_aux_lemma =>
            have e1 : A'.tmps.getD 43 undef = us 6 := hf 43
            have h1 : us 6 = .int .i64 i := hR 6 (by kernel_rfl)
            rw [h1] at e1
            have hw : IntKind.i64.wrap ((i : Int) + 1) = (i : Int) + 1 := by rw [IntKind.wrap_i64]; omega
            clear hf hR h1
            unfold Fct.opVal
            go_simp
            exact ⟨_, rfl, Below.refl _ _, rfl⟩
          case refine_9 => as_aux_lemma =>
            have e1 : A'.tmps.getD 41 undef = us 4 := hf 41
            have e2 : A'.tmps.getD 42 undef = us 5 := hf 42
            have e3 : A'.tmps.getD 44 undef = us 7 := hf 44
            have h1 : us 4 = .string s := hR 4 (by kernel_rfl)
            have h2 : us 5 = .int .i64 i := hR 5 (by kernel_rfl)
            have h3 : us 7 = .int .i64 (i + 1) := hR 7 (by kernel_rfl)
            rw [h1] at e1
            rw [h2] at e2
            rw [h3] at e3
            have i1 : (i : Int) + 1 ≤ s.size := by omega
            have i2 : (i : Int) ≤ i + 1 := by omega
            clear hf hR h1 h2 h3
            unfold Fct.opVal
            go_simp
            exact ⟨_, rfl, Below.refl _ _, (by show Value.string (s.extract i (i + 1)) = Value.string ⟨#[s[i]]⟩; rw [ex_one s i hlt])⟩
          case refine_10 => as_aux_lemma =>
            have e1 : A'.tmps.getD 40 undef = us 3 := hf 40
            have e2 : A'.tmps.getD 45 undef = us 8 := hf 45
            have h1 : us 3 = .string lk := hR 3 (by kernel_rfl)
            have h2 : us 8 = .string ⟨#[s[i]]⟩ := hR 8 (by kernel_rfl)
            rw [h1] at e1
            rw [h2] at e2
            clear hf hR h1 h2
            unfold Fct.opVal
            go_simp
            exact ⟨_, rfl, Below.refl _ _, rfl⟩
        case en =>
          intro us W hW hR _
          as_aux_lemma =>
            have q0 : us 0 = .slice (some ⟨w.heap.size + 1, 0, none⟩) 3 3 := hR 0 (by omega)
            have q1 : us 1 = .int .i64 k := hR 1 (by omega)
            have q9 : us 9 = .string (lk ++ ⟨#[s[i]]⟩) := hR 9 (by omega)
            clear hR
            simp only [List.take_succ_cons, List.take_zero, List.drop_succ_cons, List.drop_zero, Fct.fin, q0, q1, q9, Act.put, List.setIfInBounds_toArray, List.set_cons_zero, List.set_cons_succ]
            clear q0 q1 q9
            have hXW := HX.out.later hW
            have pc := hXW.cell k _ hlk
            have pf := hXW.frozen k
            have k3 : (k : Int) < 3 := by omega
            have k0 : 0 ≤ (k : Int) := by omega
            clear hxc
            go_wp2
            exact ⟨⟨i + 1, k, m0, m1, m2, by omega, by omega, rfl, rfl, Lib.hid (by have h1 := HL.out; have h2 := HMS.out; omega), Lib.hid (by rw [HST.out, HMQ.out]), Lib.hid (by have h := hXW.set k (.string (lk ++ ⟨#[s[i]]⟩)); rw [HM.out] at h; exact h), Lib.hid ((HR.out.later hW).setOther _ _ (by show w.heap.size ≠ w.heap.size + 1; omega)), (Bel.step' hbr hW).setCell (by show w.heap.size ≤ w.heap.size + 1; omega) _⟩, by simp [intOf]; omega⟩
      · have HL' : l0.size ≤ i + 1 ∧ l1.size ≤ i + 1 ∧ l2.size ≤ i + 1 := by have := HL.out; omega
        have HLL := Lib.hid HL'
        clear HL'
        by_cases c44 : s[i] = 44
        · have z44 : ((s[i].toNat : Nat) : Int) = 44 := by rw [c44]; rfl
          have z43 : ¬ ((s[i].toNat : Nat) : Int) = 43 := by omega
          have z48 : ¬ (48 : Int) ≤ s[i].toNat := by omega
          by_cases k2 : k < 2
          · have k2' : (k : Int) < 2 := by omega
            rw [c44, qstep_comma k _ k2] at hst
            have HS := Lib.hid hst
            clear hst c44 hci cd
            go_wp2
            exact ⟨⟨i + 1, k + 1, l0, l1, l2, by omega, by omega, rfl, rfl, HLL, HS, HX, HR, hbr⟩, by simp [intOf]; omega⟩
          · have k2' : ¬ (k : Int) < 2 := by omega
            have hno : qstep (k, l0.data.toList, l1.data.toList, l2.data.toList) s[i] = none := by
              unfold qstep; rw [if_neg cd, if_neg (fun h => k2 h.2), if_neg (by rw [c44]; decide)]
            rw [hno] at hst
            have HS := Lib.hid (qfold_none hst)
            have r0 := HR.out.cell 0 _ rfl
            have r1 := HR.out.cell 1 _ rfl
            have r2 := HR.out.cell 2 _ rfl
            have rf := HR.out.frozen
            clear hst c44 hci hno cd
            go_wp2
            (have hz : q2parseV s.data.toList n = (tm0, 11) := (by unfold q2parseV; rw [if_neg (by omega), HS.out]); rw [hz]; obtain ⟨HRz, hbZ⟩ := res_row (x := .int .u64 0) (y := .int .u64 0) (z := .int .u64 0) HR.out (Below.refl _ _) hbr (Nat.le_refl _); clear r0 r1 r2 rf; generalize (((wr.setCell ⟨w.heap.size, 0, none⟩ (.int .u64 0)).setCell ⟨w.heap.size, 1, none⟩ (.int .u64 0)).setCell ⟨w.heap.size, 2, none⟩ (.int .u64 0)) = Z at HRz hbZ ⊢; have z0 := HRz.cell 0 _ rfl; have z1 := HRz.cell 1 _ rfl; have z2 := HRz.cell 2 _ rfl; refine bodyPost_ret (v := .tuple #[.agg #[.int .u64 0, .int .u64 0, .int .u64 0], .int .i64 11]) (by simp [results, Tryz.results51, go_sem, z0, z1, z2]) rfl ⟨rfl, hbZ⟩)
        · have z44 : ¬ ((s[i].toNat : Nat) : Int) = 44 := fun h => c44 (UInt8.toNat_inj.1 (by rw [show (44 : UInt8).toNat = 44 from rfl]; omega))
          by_cases c43 : s[i] = 43
          · have z43 : ((s[i].toNat : Nat) : Int) = 43 := by rw [c43]; rfl
            have z48 : ¬ (48 : Int) ≤ s[i].toNat := by omega
            rw [c43, qstep_plus] at hst
            have HS := Lib.hid hst
            clear hst c43 c44 hci cd
            go_wp2
            exact ⟨⟨i + 1, k, l0, l1, l2, by omega, by omega, rfl, rfl, HLL, HS, HX, HR, hbr⟩, by simp [intOf]; omega⟩
          · have z43 : ¬ ((s[i].toNat : Nat) : Int) = 43 := fun h => c43 (UInt8.toNat_inj.1 (by rw [show (43 : UInt8).toNat = 43 from rfl]; omega))
            have hno : qstep (k, l0.data.toList, l1.data.toList, l2.data.toList) s[i] = none := by
              unfold qstep; rw [if_neg cd, if_neg (fun h => c44 h.1), if_neg c43]
            rw [hno] at hst
            have HS := Lib.hid (qfold_none hst)
            have r0 := HR.out.cell 0 _ rfl
            have r1 := HR.out.cell 1 _ rfl
            have r2 := HR.out.cell 2 _ rfl
            have rf := HR.out.frozen
            clear hst c44 c43 hci hno
            by_cases c48 : 48 ≤ s[i].toNat
            · have z48 : (48 : Int) ≤ s[i].toNat := by omega
              have z57 : ¬ ((s[i].toNat : Nat) : Int) ≤ 57 := by unfold isDig at cd; omega
              clear cd c48
              go_wp2
              (have hz : q2parseV s.data.toList n = (tm0, 11) := (by unfold q2parseV; rw [if_neg (by omega), HS.out]); rw [hz]; obtain ⟨HRz, hbZ⟩ := res_row (x := .int .u64 0) (y := .int .u64 0) (z := .int .u64 0) HR.out (Below.refl _ _) hbr (Nat.le_refl _); clear r0 r1 r2 rf; generalize (((wr.setCell ⟨w.heap.size, 0, none⟩ (.int .u64 0)).setCell ⟨w.heap.size, 1, none⟩ (.int .u64 0)).setCell ⟨w.heap.size, 2, none⟩ (.int .u64 0)) = Z at HRz hbZ ⊢; have z0 := HRz.cell 0 _ rfl; have z1 := HRz.cell 1 _ rfl; have z2 := HRz.cell 2 _ rfl; refine bodyPost_ret (v := .tuple #[.agg #[.int .u64 0, .int .u64 0, .int .u64 0], .int .i64 11]) (by simp [results, Tryz.results51, go_sem, z0, z1, z2]) rfl ⟨rfl, hbZ⟩)
            · have z48 : ¬ (48 : Int) ≤ s[i].toNat := by omega
              clear cd c48
              go_wp2
              (have hz : q2parseV s.data.toList n = (tm0, 11) := (by unfold q2parseV; rw [if_neg (by omega), HS.out]); rw [hz]; obtain ⟨HRz, hbZ⟩ := res_row (x := .int .u64 0) (y := .int .u64 0) (z := .int .u64 0) HR.out (Below.refl _ _) hbr (Nat.le_refl _); clear r0 r1 r2 rf; generalize (((wr.setCell ⟨w.heap.size, 0, none⟩ (.int .u64 0)).setCell ⟨w.heap.size, 1, none⟩ (.int .u64 0)).setCell ⟨w.heap.size, 2, none⟩ (.int .u64 0)) = Z at HRz hbZ ⊢; have z0 := HRz.cell 0 _ rfl; have z1 := HRz.cell 1 _ rfl; have z2 := HRz.cell 2 _ rfl; refine bodyPost_ret (v := .tuple #[.agg #[.int .u64 0, .int .u64 0, .int .u64 0], .int .i64 11]) (by simp [results, Tryz.results51, go_sem, z0, z1, z2]) rfl ⟨rfl, hbZ⟩)
    · obtain rfl : i = s.size := by omega
      have il : ¬ (s.size : Int) < s.size := by omega
      have hf := HF.out
      rw [List.take_of_length_le (by omega)] at hf
      have HFF := Lib.hid hf
      clear hf HF
      go_upto_region 14 with fail
      refine wp_region_facts2 15 (r14 wr.heap.size (w.heap.size + 1) l0 l1 l2 (numV l0.data.toList) (numV l1.data.toList) (numV l2.data.toList)) (fun _ _ _ => False) (by kernel_rfl) (by kernel_rfl) (fun j v W W' h hb => r14_stands h hb) ?op ?en
      case op =>
        simp only [List.take_succ_cons, List.take_zero, Fct.obl]
        refine ⟨fun us W hW hR A' hf => ?_, fun us W hW hR A' hf => ?_, fun us W hW hR A' hf => ?_, fun us W hW hR A' hf => ?_, fun us W hW hR A' hf => ?_, fun us W hW hR A' hf => ?_, fun us W hW hR A' hf => ?_, fun us W hW hR A' hf => ?_, fun us W hW hR A' hf => ?_, fun us W hW hR A' hf => ?_, fun us W hW hR A' hf => ?_, fun us W hW hR A' hf => ?_, fun us W hW hR A' hf => ?_, fun us W hW hR A' hf => ?_, fun us W hW hR A' hf => ?_, trivial⟩
        case refine_1 => as_aux_lemma => (have e1 : A'.tmps.getD 6 undef = .slice (some ⟨w.heap.size + 1, 0, none⟩) 3 3 := hf 6; clear hf hR; unfold Fct.opVal; go_simp; exact ⟨_, rfl, Below.refl _ _, rfl⟩)
        case refine_2 => as_aux_lemma => (have e1 : A'.tmps.getD 65 undef = us 0 := hf 65; have h1 : us 0 = .slice (some ⟨w.heap.size + 1, 0, none⟩) 3 3 := hR 0 (by kernel_rfl); rw [h1] at e1; clear hf hR h1; unfold Fct.opVal; go_simp; exact ⟨_, rfl, Below.refl _ _, rfl⟩)
        case refine_3 => as_aux_lemma => (have e1 : A'.tmps.getD 66 undef = us 1 := hf 66; have h1 : us 1 = .pointer (some ⟨w.heap.size + 1, 0, none⟩) := hR 1 (by kernel_rfl); rw [h1] at e1; have y0 := (HX.out.later hW).cell 0 _ rfl; clear hf hR h1; unfold Fct.opVal; go_simp; exact ⟨_, rfl, Below.refl _ _, rfl⟩)
        case refine_4 => as_aux_lemma => (have e1 : A'.tmps.getD 67 undef = us 2 := hf 67; have h1 : us 2 = .string l0 := hR 2 (by kernel_rfl); rw [h1] at e1; clear hf hR h1; unfold Fct.opVal; go_simp; go_at_call 83; refine (r2number_at l0 _ (by have := HL.out; omega)).mono ?_; rintro e w1 ⟨rfl, hb1⟩; exact ⟨_, rfl, hb1, rfl⟩)
        case refine_5 => as_aux_lemma => (have e1 : A'.tmps.getD 6 undef = .slice (some ⟨w.heap.size + 1, 0, none⟩) 3 3 := hf 6; clear hf hR; unfold Fct.opVal; go_simp; exact ⟨_, rfl, Below.refl _ _, rfl⟩)
        case refine_6 => as_aux_lemma => (have e1 : A'.tmps.getD 69 undef = us 4 := hf 69; have h1 : us 4 = .slice (some ⟨w.heap.size + 1, 0, none⟩) 3 3 := hR 4 (by kernel_rfl); rw [h1] at e1; clear hf hR h1; unfold Fct.opVal; go_simp; exact ⟨_, rfl, Below.refl _ _, rfl⟩)
        case refine_7 => as_aux_lemma => (have e1 : A'.tmps.getD 70 undef = us 5 := hf 70; have h1 : us 5 = .pointer (some ⟨w.heap.size + 1, 1, none⟩) := hR 5 (by kernel_rfl); rw [h1] at e1; have y0 := (HX.out.later hW).cell 1 _ rfl; clear hf hR h1; unfold Fct.opVal; go_simp; exact ⟨_, rfl, Below.refl _ _, rfl⟩)
        case refine_8 => as_aux_lemma => (have e1 : A'.tmps.getD 71 undef = us 6 := hf 71; have h1 : us 6 = .string l1 := hR 6 (by kernel_rfl); rw [h1] at e1; clear hf hR h1; unfold Fct.opVal; go_simp; go_at_call 83; refine (r2number_at l1 _ (by have := HL.out; omega)).mono ?_; rintro e w1 ⟨rfl, hb1⟩; exact ⟨_, rfl, hb1, rfl⟩)
        case refine_9 => as_aux_lemma => (have e1 : A'.tmps.getD 6 undef = .slice (some ⟨w.heap.size + 1, 0, none⟩) 3 3 := hf 6; clear hf hR; unfold Fct.opVal; go_simp; exact ⟨_, rfl, Below.refl _ _, rfl⟩)
        case refine_10 => as_aux_lemma => (have e1 : A'.tmps.getD 73 undef = us 8 := hf 73; have h1 : us 8 = .slice (some ⟨w.heap.size + 1, 0, none⟩) 3 3 := hR 8 (by kernel_rfl); rw [h1] at e1; clear hf hR h1; unfold Fct.opVal; go_simp; exact ⟨_, rfl, Below.refl _ _, rfl⟩)
        case refine_11 => as_aux_lemma => (have e1 : A'.tmps.getD 74 undef = us 9 := hf 74; have h1 : us 9 = .pointer (some ⟨w.heap.size + 1, 2, none⟩) := hR 9 (by kernel_rfl); rw [h1] at e1; have y0 := (HX.out.later hW).cell 2 _ rfl; clear hf hR h1; unfold Fct.opVal; go_simp; exact ⟨_, rfl, Below.refl _ _, rfl⟩)
        case refine_12 => as_aux_lemma => (have e1 : A'.tmps.getD 75 undef = us 10 := hf 75; have h1 : us 10 = .string l2 := hR 10 (by kernel_rfl); rw [h1] at e1; clear hf hR h1; unfold Fct.opVal; go_simp; go_at_call 83; refine (r2number_at l2 _ (by have := HL.out; omega)).mono ?_; rintro e w1 ⟨rfl, hb1⟩; exact ⟨_, rfl, hb1, rfl⟩)
        case refine_13 => as_aux_lemma =>
          have h1 : us 3 = .int .u64 (numV l0.data.toList) := hR 3 (by kernel_rfl)
          have h2 : us 7 = .int .u64 (numV l1.data.toList) := hR 7 (by kernel_rfl)
          have h3 : us 11 = .int .u64 (numV l2.data.toList) := hR 11 (by kernel_rfl)
          exact bs77 A' W _ _ _ ((hf 68).trans h1) ((hf 72).trans h2) ((hf 76).trans h3) _ _
        case refine_14 => as_aux_lemma =>
          have e1 : A'.tmps.getD 77 undef = us 12 := hf 77
          obtain ⟨q, h1, hq⟩ : ∃ q, us 12 = .slice (some ⟨q, 0, none⟩) 3 3 ∧ Blk W q #[.int .u64 (numV l0.data.toList), .int .u64 (numV l1.data.toList), .int .u64 (numV l2.data.toList)] 23 := hR 12 (by kernel_rfl)
          rw [h1] at e1
          clear hf hR h1
          unfold Fct.opVal
          go_simp
          go_at_call 74
          refine (r2path_at _ _ _ q _ hq).mono ?_
          rintro e w1 ⟨rfl, hb1⟩
          exact ⟨_, rfl, hb1, rfl⟩
        case refine_15 => as_aux_lemma =>
          clear hf hR
          have hsz := hW.size
          unfold Fct.opVal
          go_simp
          exact ⟨_, rfl, Bel.alloc' (Below.refl _ _) _, ⟨_, rfl, hsz, Blk.new _ _ _⟩⟩
      case en =>
        intro us W hW hR _
        as_aux_lemma =>
          have q13 : us 13 = .agg #[.int .u64 (numV l0.data.toList), .int .u64 (numV l1.data.toList), .int .u64 (numV l2.data.toList)] := hR 13 (by omega)
          obtain ⟨q, q14, hqb, hQ⟩ : ∃ q, us 14 = .pointer (some ⟨q, 0, none⟩) ∧ wr.heap.size ≤ q ∧ Blk W q #[.int .u64 0, .int .u64 0, .int .u64 0] 40 := hR 14 (by omega)
          clear hR
          simp only [List.take_succ_cons, List.take_zero, List.drop_succ_cons, List.drop_zero, Fct.fin, q13, q14, Act.put, List.setIfInBounds_toArray, List.set_cons_zero, List.set_cons_succ]
          clear q13 q14
          have hRW := HR.out.later hW
          have hrl := HR.out.lt
          have p0 := hQ.cell 0 _ rfl
          have p1 := hQ.cell 1 _ rfl
          have p2 := hQ.cell 2 _ rfl
          have pf := hQ.frozen
          have hbW := Bel.step' hbr hW
          have hbs := hbr.size
          have hv : q2parseV s.data.toList n = if fitsV (numV l0.data.toList) (numV l1.data.toList) (numV l2.data.toList) n = 0 ∧ pTextV ⟨numV l0.data.toList, numV l1.data.toList, numV l2.data.toList⟩ n = s.data.toList then (⟨numV l0.data.toList, numV l1.data.toList, numV l2.data.toList⟩, 0) else (tm0, 11) := by
            unfold q2parseV; rw [if_neg (by omega), HFF.out]; rfl
          have hok : Tm.ok ⟨numV l0.data.toList, numV l1.data.toList, numV l2.data.toList⟩ := q2tm_ok (l0.data.toList, l1.data.toList, l2.data.toList)
          have HV := Lib.hid hv
          have HOK := Lib.hid hok
          clear hv hok HFF HX HL
          generalize numV l0.data.toList = x0 at *
          generalize numV l1.data.toList = x1 at *
          generalize numV l2.data.toList = x2 at *
          go_upto_region 15 with fail
          obtain ⟨hQ1, hB1⟩ := res_row (x := .int .u64 x0) (y := .int .u64 x1) (z := .int .u64 x2) hQ (Below.refl _ _) hbW (by omega)
          have hR1 := ((hRW.setOther (p := ⟨q, 0, none⟩) (v := .int .u64 x0) (by show w.heap.size ≠ q; omega)).setOther (p := ⟨q, 1, none⟩) (v := .int .u64 x1) (by show w.heap.size ≠ q; omega)).setOther (p := ⟨q, 2, none⟩) (v := .int .u64 x2) (by show w.heap.size ≠ q; omega)
          clear p0 p1 p2 pf hQ hRW hbW hqb hbs hW hrl HR hbr
          generalize (((W.setCell ⟨q, 0, none⟩ (.int .u64 x0)).setCell ⟨q, 1, none⟩ (.int .u64 x1)).setCell ⟨q, 2, none⟩ (.int .u64 x2)) = Z at *
          have q0c := hQ1.cell 0 _ rfl
          have q1c := hQ1.cell 1 _ rfl
          have q2c := hQ1.cell 2 _ rfl
          have HT : ∃ (l : List UInt8) (e : Int), Hid (∀ W, Calls Tryz.prog 49 #[.agg #[.int .u64 x0, .int .u64 x1, .int .u64 x2], .int .i64 n] W fun r w' => r = .returned (.tuple #[.string ⟨l.toArray⟩, .int .i64 e]) ∧ Below W.heap.size W w') ∧ (e = 0 ∧ l = pTextV ⟨x0, x1, x2⟩ n ∧ fitsV x0 x1 x2 n = 0 ∨ e = 10 ∧ fitsV x0 x1 x2 n ≠ 0) := by
            by_cases h : fitsV x0 x1 x2 n = 0
            · exact ⟨_, 0, Lib.hid fun W => r2text_good ⟨x0, x1, x2⟩ n W HOK.out h1 h3 h, .inl ⟨rfl, rfl, h⟩⟩
            · exact ⟨[], _, Lib.hid fun W => r2text_bad ⟨x0, x1, x2⟩ n W h, .inr ⟨rfl, h⟩⟩
          obtain ⟨l, e, HT, hle⟩ := HT
          rcases hle with ⟨rfl, hl, h0⟩ | ⟨rfl, h0⟩
          · have HLL := Lib.hid hl
            have H0 := Lib.hid h0
            clear hl h0
            cases hq : (l == s.toList) with
            | true =>
              have HQQ := Lib.hid hq
              (go_upto_region 16 with (go_at_call 49; refine (HT.out _).mono ?_; rintro r w6 ⟨rfl, hb6⟩); have hQ6 := hQ1.later hb6; clear q0c q1c q2c; have x0c := hQ6.cell 0 _ rfl; have x1c := hQ6.cell 1 _ rfl; have x2c := hQ6.cell 2 _ rfl; have hR6 := hR1.later hb6; have r0 := hR6.cell 0 _ rfl; have r1 := hR6.cell 1 _ rfl; have r2 := hR6.cell 2 _ rfl; have rf := hR6.frozen; have hbw6 := Bel.step' hB1 hb6; go_wp2)
              have hz : q2parseV s.data.toList n = (⟨x0, x1, x2⟩, 0) := by
                rw [HV.out, if_pos ⟨H0.out, by rw [← HLL.out, ← Lib.toList_data]; exact beq_iff_eq.1 HQQ.out⟩]
              rw [hz]
              (obtain ⟨HRz, hbZ⟩ := res_row (x := .int .u64 x0) (y := .int .u64 x1) (z := .int .u64 x2) hR6 (Below.refl _ _) hbw6 (Nat.le_refl _); clear r0 r1 r2 rf; generalize (((w6.setCell ⟨w.heap.size, 0, none⟩ (.int .u64 x0)).setCell ⟨w.heap.size, 1, none⟩ (.int .u64 x1)).setCell ⟨w.heap.size, 2, none⟩ (.int .u64 x2)) = ZZ at HRz hbZ ⊢; have z0 := HRz.cell 0 _ rfl; have z1 := HRz.cell 1 _ rfl; have z2 := HRz.cell 2 _ rfl; refine bodyPost_ret (v := .tuple #[.agg #[.int .u64 x0, .int .u64 x1, .int .u64 x2], .int .i64 0]) (by simp [results, Tryz.results51, go_sem, z0, z1, z2]) rfl ⟨rfl, hbZ⟩)
            | false =>
              have HQQ := Lib.hid hq
              (go_upto_region 16 with (go_at_call 49; refine (HT.out _).mono ?_; rintro r w6 ⟨rfl, hb6⟩); have hQ6 := hQ1.later hb6; clear q0c q1c q2c; have x0c := hQ6.cell 0 _ rfl; have x1c := hQ6.cell 1 _ rfl; have x2c := hQ6.cell 2 _ rfl; have hR6 := hR1.later hb6; have r0 := hR6.cell 0 _ rfl; have r1 := hR6.cell 1 _ rfl; have r2 := hR6.cell 2 _ rfl; have rf := hR6.frozen; have hbw6 := Bel.step' hB1 hb6; go_wp2)
              have hz : q2parseV s.data.toList n = (tm0, 11) := by
                rw [HV.out, if_neg]
                intro h
                rw [← HLL.out] at h
                have := HQQ.out
                rw [h.2, Lib.toList_data] at this
                simp at this
              rw [hz]
              (obtain ⟨HRz, hbZ⟩ := res_row (x := .int .u64 0) (y := .int .u64 0) (z := .int .u64 0) hR6 (Below.refl _ _) hbw6 (Nat.le_refl _); clear r0 r1 r2 rf; generalize (((w6.setCell ⟨w.heap.size, 0, none⟩ (.int .u64 0)).setCell ⟨w.heap.size, 1, none⟩ (.int .u64 0)).setCell ⟨w.heap.size, 2, none⟩ (.int .u64 0)) = ZZ at HRz hbZ ⊢; have z0 := HRz.cell 0 _ rfl; have z1 := HRz.cell 1 _ rfl; have z2 := HRz.cell 2 _ rfl; refine bodyPost_ret (v := .tuple #[.agg #[.int .u64 0, .int .u64 0, .int .u64 0], .int .i64 11]) (by simp [results, Tryz.results51, go_sem, z0, z1, z2]) rfl ⟨rfl, hbZ⟩)
          · have H0 := Lib.hid h0
            clear h0
            (go_upto_region 16 with (go_at_call 49; refine (HT.out _).mono ?_; rintro r w6 ⟨rfl, hb6⟩); have hQ6 := hQ1.later hb6; clear q0c q1c q2c; have x0c := hQ6.cell 0 _ rfl; have x1c := hQ6.cell 1 _ rfl; have x2c := hQ6.cell 2 _ rfl; have hR6 := hR1.later hb6; have r0 := hR6.cell 0 _ rfl; have r1 := hR6.cell 1 _ rfl; have r2 := hR6.cell 2 _ rfl; have rf := hR6.frozen; have hbw6 := Bel.step' hB1 hb6; go_wp2)
            have hz : q2parseV s.data.toList n = (tm0, 11) := by rw [HV.out, if_neg (fun h => H0.out h.1)]
            rw [hz]
            (obtain ⟨HRz, hbZ⟩ := res_row (x := .int .u64 0) (y := .int .u64 0) (z := .int .u64 0) hR6 (Below.refl _ _) hbw6 (Nat.le_refl _); clear r0 r1 r2 rf; generalize (((w6.setCell ⟨w.heap.size, 0, none⟩ (.int .u64 0)).setCell ⟨w.heap.size, 1, none⟩ (.int .u64 0)).setCell ⟨w.heap.size, 2, none⟩ (.int .u64 0)) = ZZ at HRz hbZ ⊢; have z0 := HRz.cell 0 _ rfl; have z1 := HRz.cell 1 _ rfl; have z2 := HRz.cell 2 _ rfl; refine bodyPost_ret (v := .tuple #[.agg #[.int .u64 0, .int .u64 0, .int .u64 0], .int .i64 11]) (by simp [results, Tryz.results51, go_sem, z0, z1, z2]) rfl ⟨rfl, hbZ⟩)
theorem r2parse_at (s : ByteArray) (n : Int) (w : World) (hs : s.size < 4294967281) :
    Calls Tryz.prog 51 #[.string s, .int .i64 n] w fun e w' => e = .returned (.tuple #[tmV (pParseV s n).1, .int .i64 (pParseV s n).2]) ∧ Below w.heap.size w w' := by
  rw [← q2parse_same]
  by_cases h : n < 1 ∨ n > 3
  · have e : q2parseV s.data.toList n = (tm0, 10) := by unfold q2parseV; rw [if_pos h]
    rw [e]; exact r2parse_arity s n w h
  · obtain ⟨m, rfl⟩ : ∃ m : Nat, n = m := ⟨n.toNat, by omega⟩
    exact r2parse_in s m w hs (by omega) (by omega)
end Go.Proofs.YtiiegpklpmogmaaGreatDoor
