/- The document's own answer for chapter 2: decimal. -/
import Derived.Test.YtiiegpklpmogmaaGreatDoorR2A
import Derived.Test.YtiiegpklpmogmaaGreatDoorSt6
import Derived.Laws.IdiomStrings
set_option linter.unusedVariables false
set_option linter.unusedSimpArgs false
namespace Go.Proofs.YtiiegpklpmogmaaGreatDoor
open Go.RowKit

/-- A byte made a string. -/
theorem byte_str2 (W : World) (q d : Nat) (hd : d < 10) (hB : Blk W q #[.int .u8 (48 + d)] 5) : (convert 121 9 (.slice (some ⟨q, 0, none⟩) 1 1)).run Tryz.prog W = .ok (.string ⟨[UInt8.ofNat (48 + d)].toArray⟩) W := by
  have := run_convert_bytes_back (P := Tryz.prog) W 121 9 5 ⟨q, 0, none⟩ 1 [UInt8.ofNat (48 + d)] Tryz.underlying121 Tryz.underlying5 Tryz.underlying9 ?_
  · exact this
  · intro j hj
    have hj0 : j = 0 := by simp at hj; exact hj
    subst hj0
    have h := hB.cell 0 _ rfl
    rw [Addr.add_lit]
    rw [h]
    have : (([UInt8.ofNat (48 + d)] : List UInt8)[0]).toNat = 48 + d := dig_nat d hd
    rw [this]
    simp
theorem str_eq {a : ByteArray} {l : List UInt8} (h : a.data.toList = l) : Ending.returned (.string a) = .returned (.string ⟨l.toArray⟩) := by
  subst h; rfl
theorem byte48 (d : Nat) : (48 + UInt8.ofNat d : UInt8) = UInt8.ofNat (48 + d) := (UInt8.ofNat_add 48 d).symm
theorem str_app (a b : ByteArray) : (a ++ b).data.toList = a.data.toList ++ b.data.toList := by simp

def rd (u j : Nat) (v : Value) (W : World) : Prop :=
  match j with
  | 0 => v = .int .u64 u
  | 1 => v = .int .u64 ((u : Int) / 10)
  | 2 => v = .string ⟨(Lib.decDigits (u / 10)).toArray⟩
  | 3 => v = .int .u64 u
  | 4 => v = .int .u64 ((u % 10 : Nat) : Int)
  | 5 => v = .int .u64 (48 + ((u % 10 : Nat) : Int))
  | 6 => v = .int .u8 (48 + ((u % 10 : Nat) : Int))
  | 7 => ∃ q, v = .slice (some ⟨q, 0, none⟩) 1 1 ∧ Blk W q #[.int .u8 (48 + ((u % 10 : Nat) : Int))] 5
  | _ => v = .string ⟨[UInt8.ofNat (48 + u % 10)].toArray⟩
theorem rd_stands {u j : Nat} {v : Value} {W W' : World} (h : rd u j v W) (hb : Below W.heap.size W W') : rd u j v W' := by
  match j with
  | 0 | 1 | 2 | 3 | 4 | 5 | 6 => exact h
  | 7 => obtain ⟨q, e, h1⟩ := h; exact ⟨q, e, h1.later hb⟩
  | (j + 8) => exact h
set_option maxRecDepth 60000 in
theorem bs17 {u : Nat} (A : Act) (W : World) (e1 : A.tmps.getD 16 undef = .int .u8 (48 + ((u % 10 : Nat) : Int))) (ps : String) (af : Array Edge) :
   Fct.opVal (fun a b => Below a.heap.size a b) Tryz.prog { dst := some 17, op := .buildSlice 121 1 #[(0, .tmp 16)], type := 121, pos := ps, after := af, guard := none } A W (rd u 7) (fun _ _ => False) := by
  unfold Fct.opVal Oper.wp
  simp only [execOp, Act.eval, List.map_toArray, List.map_cons, List.map_nil]
  rw [e1]
  clear e1
  go_simp
  exact ⟨_, rfl, Bel.alloc' (Below.refl _ _) _, ⟨_, rfl, Blk.new _ _ _⟩⟩
set_option maxHeartbeats 4000000 in
set_option maxRecDepth 60000 in
theorem r2dec_at : ∀ (u : Nat), u < 18446744073709551616 → ∀ w : World,
    Calls Tryz.prog 80 #[.int .u64 u] w fun e w' => e = .returned (.string ⟨(Lib.decDigits u).toArray⟩) ∧ Below w.heap.size w w' := by
  intro u
  induction u using Nat.strongRecOn with
  | ind u ih =>
    intro hu w
    by_cases h9 : u < 10
    · have t1 : (u : Int) < 10 := by omega
      have hcv := byte_str2 (w.alloc (.cells #[.int .u8 (48 + u)] 5)) w.heap.size u h9 (Blk.new w #[.int .u8 (48 + u)] 5)
      have e2 : Hid ([UInt8.ofNat (48 + u)] = Lib.decDigits u) := Lib.hid (by rw [Lib.decDigits_one h9])
      have h2 : Hid (({ data := #[48 + UInt8.ofNat u] } : ByteArray).data.toList = [UInt8.ofNat (48 + u)]) := Lib.hid (by rw [byte48])
      clear ih
      go_enter Tryz.func80, Tryz.ntmps80
      go_wp2
      go_ret
      exact ⟨str_eq (by rw [h2.out]; exact e2.out), by (repeat first | exact Below.refl _ _ | assumption | refine Bel.alloc' ?_ _ | refine Bel.drewN ?_ _ | refine Below.drew ?_ | refine Bel.step' ?_ (by assumption))⟩
    · have t1 : ¬ (u : Int) < 10 := by omega
      have CR := Lib.hid (ih (u / 10) (by omega) (by omega))
      rw [show ((u / 10 : Nat) : Int) = (u : Int) / 10 by omega] at CR
      clear ih
      have hd := Lib.hid (show u % 10 < 10 by omega)
      have HE := Lib.hid (show Lib.decDigits u = Lib.decDigits (u / 10) ++ [UInt8.ofNat (48 + u % 10)] by rw [Lib.decDigits, dif_neg (by omega)])
      go_enter Tryz.func80, Tryz.ntmps80
      go_upto_region 3 with fail
      refine wp_region_facts2 9 (rd u) (fun _ _ _ => False) (by kernel_rfl) (by kernel_rfl) (fun j v W W' h hb => rd_stands h hb) ?op ?en
      case op =>
        simp only [List.take_succ_cons, List.take_zero, Fct.obl]
        refine ⟨fun us W hW hR A' hf => ?_, fun us W hW hR A' hf => ?_, fun us W hW hR A' hf => ?_, fun us W hW hR A' hf => ?_, fun us W hW hR A' hf => ?_, fun us W hW hR A' hf => ?_, fun us W hW hR A' hf => ?_, fun us W hW hR A' hf => ?_, fun us W hW hR A' hf => ?_, trivial⟩
        case refine_1 => as_aux_lemma =>
          have e1 : A'.tmps.getD 0 undef = .int .u64 u := hf 0
          clear hf hR; unfold Fct.opVal; go_simp; exact ⟨_, rfl, Below.refl _ _, rfl⟩
        case refine_2 => as_aux_lemma =>
          have e1 : A'.tmps.getD 10 undef = us 0 := hf 10
          have h1 : us 0 = .int .u64 u := hR 0 (by kernel_rfl)
          rw [h1] at e1
          have hw : IntKind.u64.wrap ((u : Int) / 10) = (u : Int) / 10 := by rw [IntKind.wrap_u64]; omega
          clear hf hR; unfold Fct.opVal; go_simp; exact ⟨_, rfl, Below.refl _ _, rfl⟩
        case refine_3 => as_aux_lemma =>
          have e1 : A'.tmps.getD 11 undef = us 1 := hf 11
          have h1 : us 1 = .int .u64 ((u : Int) / 10) := hR 1 (by kernel_rfl)
          rw [h1] at e1
          clear hf hR; unfold Fct.opVal; go_simp
          go_at_call 80
          refine (CR.out _).mono ?_
          rintro e w1 ⟨rfl, hb1⟩
          exact ⟨_, rfl, hb1, rfl⟩
        case refine_4 => as_aux_lemma =>
          have e1 : A'.tmps.getD 0 undef = .int .u64 u := hf 0
          clear hf hR; unfold Fct.opVal; go_simp; exact ⟨_, rfl, Below.refl _ _, rfl⟩
        case refine_5 => as_aux_lemma =>
          have e1 : A'.tmps.getD 13 undef = us 3 := hf 13
          have h1 : us 3 = .int .u64 u := hR 3 (by kernel_rfl)
          rw [h1] at e1
          clear hf hR; unfold Fct.opVal; go_simp; exact ⟨_, rfl, Below.refl _ _, rfl⟩
        case refine_6 => as_aux_lemma =>
          have e1 : A'.tmps.getD 14 undef = us 4 := hf 14
          have h1 : us 4 = .int .u64 ((u % 10 : Nat) : Int) := hR 4 (by kernel_rfl)
          rw [h1] at e1
          have hw : IntKind.u64.wrap (48 + (u : Int) % 10) = 48 + (u : Int) % 10 := by rw [IntKind.wrap_u64]; omega
          clear hf hR; unfold Fct.opVal; go_simp; exact ⟨_, rfl, Below.refl _ _, rfl⟩
        case refine_7 => as_aux_lemma =>
          have e1 : A'.tmps.getD 15 undef = us 5 := hf 15
          have h1 : us 5 = .int .u64 (48 + ((u % 10 : Nat) : Int)) := hR 5 (by kernel_rfl)
          rw [h1] at e1
          have hw : IntKind.u8.wrap (48 + (u : Int) % 10) = 48 + (u : Int) % 10 := by
            have : IntKind.u8.wrap (48 + (u : Int) % 10) = (48 + (u : Int) % 10) % 256 := rfl
            omega
          clear hf hR; unfold Fct.opVal; go_simp; exact ⟨_, rfl, Below.refl _ _, rfl⟩
        case refine_8 => as_aux_lemma =>
          have h1 : us 6 = .int .u8 (48 + ((u % 10 : Nat) : Int)) := hR 6 (by kernel_rfl)
          exact bs17 A' W ((hf 16).trans h1) _ _
        case refine_9 => as_aux_lemma =>
          have e1 : A'.tmps.getD 17 undef = us 7 := hf 17
          obtain ⟨q, h1, hq⟩ : ∃ q, us 7 = .slice (some ⟨q, 0, none⟩) 1 1 ∧ Blk W q #[.int .u8 (48 + ((u % 10 : Nat) : Int))] 5 := hR 7 (by kernel_rfl)
          rw [h1] at e1
          have hcv := byte_str2 W q (u % 10) hd.out hq
          clear hf hR hq; unfold Fct.opVal; go_simp
          exact ⟨_, rfl, Below.refl _ _, (by show Value.string { data := #[48 + UInt8.ofNat (u % 10)] } = Value.string ⟨[UInt8.ofNat (48 + u % 10)].toArray⟩; rw [byte48])⟩
      case en =>
        intro us W hW hR _
        as_aux_lemma =>
          have k2 : us 2 = .string ⟨(Lib.decDigits (u / 10)).toArray⟩ := hR 2 (by omega)
          have k8 : us 8 = .string ⟨[UInt8.ofNat (48 + u % 10)].toArray⟩ := hR 8 (by omega)
          clear hR
          simp only [List.take_succ_cons, List.take_zero, List.drop_succ_cons, List.drop_zero, Fct.fin, k2, k8, Act.put, List.setIfInBounds_toArray, List.set_cons_zero, List.set_cons_succ]
          clear k2 k8
          have hno : ¬ 9223372036854775807 < (Lib.decDigits (u / 10)).length + 1 := by have := decI_length ((u / 10 : Nat) : Int) (by omega); unfold decI at this; rw [Int.toNat_natCast] at this; omega
          go_wp2
          go_ret
          exact ⟨str_eq (by rw [HE.out, str_app, byte48]), hW⟩
end Go.Proofs.YtiiegpklpmogmaaGreatDoor
