/- A region that draws its order and whose first operations only lay new blocks: walked once, one operation at a time, each in whatever world its own forerunners leave; what follows in the order of the text. -/
import Derived.Test.YtiiegpklpmogmaaGreatDoorBase
import Derived.StillTail
set_option linter.unusedVariables false
set_option linter.unusedSimpArgs false
namespace Go.Proofs.YtiiegpklpmogmaaGreatDoor
open Go.RowKit Go.Sort

namespace Fct
variable {P : Program} {ops : Array Oper} {md : Region.Mode} {E : World → World → Prop}

def dst (ops : Array Oper) (j : Nat) : Option Tmp := (ops[j]?).bind (·.dst)

/-- The frame once those of js that are listed have come up. -/
def puts (ops : Array Oper) (vs : Nat → Value) (listed : Nat → Bool) : List Nat → Act → Act
  | [], a => a
  | j :: js, a => puts ops vs listed js (if listed j then a.put (dst ops j) (vs j) else a)

theorem puts_congr {vs vs' : Nat → Value} {L L' : Nat → Bool} : ∀ (js : List Nat) (a : Act), (∀ j ∈ js, L j = L' j) → (∀ j ∈ js, L j = true → vs j = vs' j) → puts ops vs L js a = puts ops vs' L' js a
  | [], _, _, _ => rfl
  | j :: js, a, h1, h2 => by
    have e1 := h1 j (by simp)
    have e2 := h2 j (by simp)
    have key : (if L j = true then a.put (dst ops j) (vs j) else a) = (if L' j = true then a.put (dst ops j) (vs' j) else a) := by
      rw [← e1]
      split
      · rename_i h; rw [e2 h]
      · rfl
    show puts ops vs L js _ = puts ops vs' L' js _
    rw [key]
    exact puts_congr js _ (fun j hj => h1 j (List.mem_cons_of_mem _ hj)) (fun j hj => h2 j (List.mem_cons_of_mem _ hj))

theorem puts_put {vs : Nat → Value} {L : Nat → Bool} {d : Tmp} {v : Value} : ∀ (js : List Nat) (a : Act), (∀ j ∈ js, dst ops j ≠ some d) → puts ops vs L js (a.put (some d) v) = (puts ops vs L js a).put (some d) v
  | [], _, _ => rfl
  | j :: js, a, h => by
    have hj := h j (by simp)
    show puts ops vs L js _ = (puts ops vs L js _).put _ _
    rw [← puts_put js _ (fun j hj => h j (List.mem_cons_of_mem _ hj))]
    congr 1
    split
    · exact Act.put_comm a v (vs j) (fun d' hd' => by cases hd'; exact hj)
    · rfl

theorem puts_set {vs : Nat → Value} {L : Nat → Bool} {i : Nat} {d : Tmp} {v : Value} (hd : dst ops i = some d) : ∀ (js : List Nat) (a : Act), js.Nodup → i ∈ js → L i = false → (∀ j ∈ js, j ≠ i → dst ops j ≠ some d) →
    puts ops (fun j => if j = i then v else vs j) (fun j => if j = i then true else L j) js a = (puts ops vs L js a).put (some d) v
  | [], _, _, hi, _, _ => by cases hi
  | j :: js, a, hn, hi, hL, h => by
    rw [List.nodup_cons] at hn
    by_cases hji : j = i
    · subst hji
      show puts ops _ _ js (if (if j = j then true else L j) = true then a.put (dst ops j) (if j = j then v else vs j) else a) = (puts ops vs L js (if L j = true then a.put (dst ops j) (vs j) else a)).put (some d) v
      simp only [if_true, hL, hd, Bool.false_eq_true, if_false]
      rw [← puts_put js a (fun k hk => h k (List.mem_cons_of_mem _ hk) (fun e => hn.1 (e ▸ hk)))]
      exact puts_congr js _ (fun k hk => if_neg (fun (e : k = j) => hn.1 (e ▸ hk))) (fun k hk _ => if_neg (fun (e : k = j) => hn.1 (e ▸ hk)))
    · have hi' : i ∈ js := by
        rcases List.mem_cons.1 hi with e | e
        · exact absurd e.symm hji
        · exact e
      show puts ops _ _ js (if (if j = i then true else L j) = true then a.put (dst ops j) (if j = i then v else vs j) else a) = _
      simp only [if_neg hji]
      exact puts_set hd js _ hn.2 hi' hL (fun k hk => h k (List.mem_cons_of_mem _ hk))

theorem size_put (a : Act) (d : Option Tmp) (v : Value) : (a.put d v).tmps.size = a.tmps.size := by
  cases d <;> simp [Act.put]
theorem size_puts {vs : Nat → Value} {L : Nat → Bool} : ∀ (js : List Nat) (a : Act), (puts ops vs L js a).tmps.size = a.tmps.size
  | [], _ => rfl
  | j :: js, a => by
    show (puts ops vs L js _).tmps.size = _
    rw [size_puts js]
    split
    · exact size_put _ _ _
    · rfl

theorem eval_put_same (a a' : Act) (hs : a.tmps.size = a'.tmps.size) (d : Option Tmp) (v : Value) (t : Tmp) (h : a.tmps.getD t undef = a'.tmps.getD t undef) : (a.put d v).tmps.getD t undef = (a'.put d v).tmps.getD t undef := by
  cases d with
  | none => exact h
  | some d =>
    by_cases hdt : d = t
    · subst hdt
      by_cases hlt : d < a.tmps.size
      · have hlt' : d < a'.tmps.size := hs ▸ hlt
        simp [Act.put, Array.getD_eq_getD_getElem?, Array.getElem?_setIfInBounds_self_of_lt hlt, Array.getElem?_setIfInBounds_self_of_lt hlt']
      · have hlt' : ¬ d < a'.tmps.size := hs ▸ hlt
        simp only [Act.put, Array.setIfInBounds, dif_neg hlt, dif_neg hlt', h]
    · simpa [Act.put, Array.getD_eq_getD_getElem?, Array.getElem?_setIfInBounds_ne hdt] using h

theorem getD_put_ne (a : Act) (d : Option Tmp) (v : Value) (t : Tmp) (h : d ≠ some t) : (a.put d v).tmps.getD t undef = a.tmps.getD t undef := by
  cases d with
  | none => rfl
  | some d =>
    have hdt : d ≠ t := fun e => h (by rw [e])
    simp [Act.put, Array.getD_eq_getD_getElem?, Array.getElem?_setIfInBounds_ne hdt]

theorem puts_get {vs : Nat → Value} {L L' : Nat → Bool} {t : Tmp} : ∀ (js : List Nat) (a a' : Act), a.tmps.size = a'.tmps.size → a.tmps.getD t undef = a'.tmps.getD t undef → (∀ j ∈ js, dst ops j = some t → L j = L' j) →
    (puts ops vs L js a).tmps.getD t undef = (puts ops vs L' js a').tmps.getD t undef
  | [], _, _, _, h, _ => h
  | j :: js, a, a', hs, h, hL => by
    show (puts ops vs L js _).tmps.getD t undef = (puts ops vs L' js _).tmps.getD t undef
    refine puts_get js _ _ ?_ ?_ (fun k hk => hL k (List.mem_cons_of_mem _ hk))
    · by_cases h1 : L j = true <;> by_cases h2 : L' j = true <;> simp only [h1, h2, if_true, Bool.false_eq_true, if_false, size_put, hs]
    · by_cases hd : dst ops j = some t
      · rw [hL j (by simp) hd]
        by_cases h2 : L' j = true
        · simp only [h2, if_true]; exact eval_put_same a a' hs _ _ t h
        · simp only [h2, if_false]; exact h
      · by_cases h1 : L j = true <;> by_cases h2 : L' j = true <;> simp only [h1, h2, if_true, Bool.false_eq_true, if_false, getD_put_ne _ _ _ _ hd, h]

/-! ### What is asked of a region -/

def headB (md : Region.Mode) (ops : Array Oper) (n m i : Nat) : Bool :=
  match ops[i]? with
  | some o => o.guard.isNone && (match o.dst with | some d => decide (d < m) && (List.range n).all (fun j => j == i || dst ops j != some d) | none => false) &&
      (o.looksAt ops).all (fun t => (List.range n).all fun j => dst ops j != some t || (decide (j < i) && Region.waitsFor md ops i j)) && o.after.all (fun e => !Region.binds md e || decide (e.on < i))
  | none => false

def listedTo (m n : Nat) : Array Bool := Array.replicate n true ++ Array.replicate (m - n) false

def factsB (md : Region.Mode) (ops : Array Oper) (n m : Nat) : Bool :=
  decide (n ≤ ops.size) && Region.noSelect ops && (n == ops.size || (Region.sinkB md ops n && Region.chainB md ops n)) && (List.range n).all (headB md ops n m) && Region.seqB md ops (ops.size - n) n (listedTo ops.size n)

/-- The frame of the lexical order ahead of operation k. -/
def lex (ops : Array Oper) (vs : Nat → Value) (k : Nat) (a : Act) : Act := puts ops vs (fun _ => true) (List.range k) a

/-- What is asked of one operation of the head. -/
def opFct (E : World → World → Prop) (P : Program) (o : Oper) (a : Act) (w : World) (R : Value → World → Prop) (O : Value → Nat → Prop) : Prop :=
  o.wp P a w (fun a' w' => ∃ v, a' = a.put o.dst v ∧ E w w' ∧ R v w' ∧ ∀ b, O v b → w.heap.size ≤ b ∧ b < w'.heap.size) (fun _ _ _ => False)

theorem lex_eval {vs : Nat → Value} {L : Nat → Bool} {n m i : Nat} {o : Oper} {a : Act} (ho : ops[i]? = some o) (hh : headB md ops n m i = true) (hin : i < n)
    (hL : ∀ j, Region.waitsFor md ops i j = true → L j = true) : ∀ x ∈ o.op.operands, (puts ops vs L (List.range n) a).eval x = (lex ops vs i a).eval x := by
  intro x hx
  cases x with
  | tmp t =>
    unfold headB at hh
    simp only [ho, Bool.and_eq_true] at hh
    have ht : t ∈ o.looksAt ops := List.mem_append_left _ (List.mem_filterMap.2 ⟨.tmp t, by simpa using hx, rfl⟩)
    have h1 := List.all_eq_true.1 hh.1.2 t ht
    have e1 : (puts ops vs L (List.range n) a).tmps.getD t undef = (puts ops vs (fun j => decide (j < i)) (List.range n) a).tmps.getD t undef := by
      refine puts_get _ _ _ rfl rfl (fun j hj hd => ?_)
      have h2 := List.all_eq_true.1 h1 j hj
      simp only [hd, bne_self_eq_false, Bool.false_or, Bool.and_eq_true, decide_eq_true_eq] at h2
      rw [hL j h2.2, decide_eq_true h2.1]
    have e2 : puts ops vs (fun j => decide (j < i)) (List.range n) a = lex ops vs i a := by
      have hsplit : List.range n = List.range i ++ (List.range (n - i)).map (i + ·) := by
        rw [← List.range_add]; congr 1; omega
      rw [hsplit]
      have happ : ∀ (js ks : List Nat) (a : Act), puts ops vs (fun j => decide (j < i)) (js ++ ks) a = puts ops vs (fun j => decide (j < i)) ks (puts ops vs (fun j => decide (j < i)) js a) := by
        intro js
        induction js with
        | nil => intro ks a; rfl
        | cons j js ih => intro ks a; exact ih ks _
      rw [happ]
      have hnone : ∀ (ks : List Nat) (a : Act), (∀ k ∈ ks, ¬ k < i) → puts ops vs (fun j => decide (j < i)) ks a = a := by
        intro ks
        induction ks with
        | nil => intro a _; rfl
        | cons k ks ih =>
          intro a hk
          show puts ops vs _ ks (if decide (k < i) = true then _ else a) = a
          rw [if_neg (by simpa using hk k (by simp))]
          exact ih a (fun k' hk' => hk k' (List.mem_cons_of_mem _ hk'))
      rw [hnone _ _ (fun k hk => by obtain ⟨j, _, rfl⟩ := List.mem_map.1 hk; omega)]
      exact puts_congr _ _ (fun j hj => by simpa using List.mem_range.1 hj) (fun _ _ _ => rfl)
    show (puts ops vs L (List.range n) a).tmps.getD t undef = (lex ops vs i a).tmps.getD t undef
    rw [e1, e2]
  | _ => rfl

theorem put_inj {a : Act} {d : Tmp} {u v : Value} (hd : d < a.tmps.size) (h : a.put (some d) u = a.put (some d) v) : u = v := by
  have := congrArg (fun a => a.tmps[d]?) h
  simpa [Act.put, Array.getElem?_setIfInBounds_self_of_lt hd] using this

/-- One operation of the head, shown in the lexical frame, carried to the frame at hand. -/
theorem op_at {o : Oper} {b a : Act} {w : World} {R : Value → World → Prop} {O : Value → Nat → Prop} {d : Tmp} (hd : o.dst = some d) (hb : d < b.tmps.size) (hs : ∀ cs c, o.op ≠ .select cs c)
    (he : ∀ x ∈ o.op.operands, a.eval x = b.eval x) {K : Act → World → Prop} {Q : Exit → Act → World → Prop} (h : opFct E P o b w R O)
    (hK : ∀ v w', E w w' → R v w' → (∀ b, O v b → w.heap.size ≤ b ∧ b < w'.heap.size) → K (a.put (some d) v) w') : o.wp P a w K Q := by
  unfold opFct Oper.wp at h
  unfold Oper.wp
  rw [execOp_congr o hs he]
  generalize (execOp b.eval o).run P w = r at h ⊢
  cases r with
  | ok n w' =>
    cases n <;> simp only [Oper.upon, hd] at h ⊢
    case value u => obtain ⟨v, e, h1, h2, h3⟩ := h; rw [put_inj hb e]; exact hK _ _ h1 h2 h3
    case skip => obtain ⟨v, e, h1, h2, h3⟩ := h; rw [put_inj hb e]; exact hK _ _ h1 h2 h3
    case defer dd =>
      obtain ⟨v, e, h1, h2⟩ := h
      exact absurd (congrArg (fun a => a.defers.length) e) (by simp [Act.put])
    case enter f args =>
      refine Calls.mono h fun e w'' he => ?_
      cases e with
      | returned u => obtain ⟨v, e, h1, h2, h3⟩ := he; rw [put_inj hb e]; exact hK _ _ h1 h2 h3
      | panicked c => exact he.elim
      | outgrown => exact absurd he (by rintro ⟨_, _, h⟩; exact h)
    case row row args => exact Rows.mono h fun u w'' he => by obtain ⟨v, e, h1, h2, h3⟩ := he; rw [put_inj hb e]; exact hK _ _ h1 h2 h3
  | halt x w' => cases x <;> simp only [Oper.upon] at h

/-! ### The whole head, then the tail -/

/-- The walk: each operation of the head in the frame of the lexical order, in whatever world behind w0 in which what it waits for has come up; its value is then a letter. At the end what follows is asked. -/
def walk (E : World → World → Prop) (P : Program) (md : Region.Mode) (ops : Array Oper) (w0 : World) (R : Nat → Value → World → Prop) (O : Nat → Value → Nat → Prop) (T : Act → World → Prop) : List Oper → Nat → (Nat → Value) → Act → Prop
  | [], k, vs, a => ∀ w, E w0 w → (∀ j, j < k → R j (vs j) w) → (∀ i j b, i < k → j < k → i ≠ j → O i (vs i) b → ¬ O j (vs j) b) → T a w
  | o :: rest, k, vs, a => (∀ w, E w0 w → (∀ j, Region.waitsFor md ops k j = true → R j (vs j) w) → opFct E P o a w (R k) (O k)) ∧
    ∀ v, walk E P md ops w0 R O T rest (k + 1) (fun j => if j = k then v else vs j) (a.put o.dst v)

theorem lex_succ (ops : Array Oper) (vs : Nat → Value) (k : Nat) (a : Act) : lex ops vs (k + 1) a = (lex ops vs k a).put (dst ops k) (vs k) := by
  unfold lex
  rw [List.range_succ]
  have happ : ∀ (js ks : List Nat) (a : Act), puts ops vs (fun _ => true) (js ++ ks) a = puts ops vs (fun _ => true) ks (puts ops vs (fun _ => true) js a) := by
    intro js
    induction js with
    | nil => intro ks a; rfl
    | cons j js ih => intro ks a; exact ih ks _
  rw [happ]
  rfl

theorem lex_congr {ops : Array Oper} {vs vs' : Nat → Value} {k : Nat} (a : Act) (h : ∀ j, j < k → vs j = vs' j) : lex ops vs k a = lex ops vs' k a :=
  puts_congr _ _ (fun _ _ => rfl) (fun j hj _ => h j (List.mem_range.1 hj))

/-- What the walk gives at whatever values. -/
theorem walk_at {w0 : World} {R : Nat → Value → World → Prop} {O : Nat → Value → Nat → Prop} {T : Act → World → Prop} {a0 : Act} (hdeps : ∀ i j, Region.waitsFor md ops i j = true → i < ops.size → j < i ∨ True) (us : Nat → Value) :
    ∀ (l : List Oper) (k : Nat) (vs : Nat → Value) (a : Act), (∀ j, j < l.length → l[j]? = ops[k + j]?) → (∀ j, j < k → vs j = us j) → a = lex ops us k a0 →
    (∀ i j, k ≤ i → i < k + l.length → Region.waitsFor md ops i j = true → j < i) → walk E P md ops w0 R O T l k vs a →
    (∀ i o, k ≤ i → i < k + l.length → ops[i]? = some o → ∀ w, E w0 w → (∀ j, Region.waitsFor md ops i j = true → R j (us j) w) → opFct E P o (lex ops us i a0) w (R i) (O i)) ∧
    (∀ w, E w0 w → (∀ j, j < k + l.length → R j (us j) w) → (∀ i j b, i < k + l.length → j < k + l.length → i ≠ j → O i (us i) b → ¬ O j (us j) b) → T (lex ops us (k + l.length) a0) w)
  | [], k, vs, a, _, hv, ha, _, h => by
    refine ⟨fun i o h1 h2 => absurd h2 (by simp; omega), fun w hw hR hO => ?_⟩
    subst ha
    exact h w hw (fun j hj => by rw [hv j hj]; exact hR j (by simpa using hj)) (fun i j b hi hj hij => by rw [hv i hi, hv j hj]; exact hO i j b (by simpa using hi) (by simpa using hj) hij)
  | o :: l, k, vs, a, hl, hv, ha, hd, h => by
    subst ha
    have h0 : ops[k]? = some o := by simpa using (hl 0 (by simp)).symm
    obtain ⟨h1, h2⟩ := h
    have hdk : dst ops k = o.dst := by simp [dst, h0]
    have ih := walk_at hdeps us l (k + 1) _ ((lex ops us k a0).put o.dst (us k)) (fun j hj => by have := hl (j + 1) (by simp; omega); simpa [Nat.add_assoc, Nat.add_comm 1 j] using this)
      (fun j hj => by
        by_cases hjk : j = k
        · subst hjk; simp
        · simp only [if_neg hjk]; exact hv j (by omega))
      (by rw [lex_succ, hdk]) (fun i j hi hi' => hd i j (by omega) (by simp only [List.length_cons]; omega)) (h2 (us k))
    refine ⟨fun i oi hi hi' hoi w hw hR => ?_, fun w hw hR hO => ?_⟩
    · by_cases hik : i = k
      · subst hik
        obtain rfl : oi = o := Option.some.inj (hoi.symm.trans h0)
        exact h1 w hw (fun j hj => by rw [hv j (hd i j (by omega) hi' hj)]; exact hR j hj)
      · exact ih.1 i oi (by omega) (by simp only [List.length_cons] at hi'; omega) hoi w hw hR
    · have := ih.2 w hw (fun j hj => hR j (by simp only [List.length_cons]; omega)) (fun i j b hi hj => hO i j b (by simp only [List.length_cons]; omega) (by simp only [List.length_cons]; omega))
      rwa [show k + 1 + l.length = k + (o :: l).length by simp only [List.length_cons]; omega] at this

theorem getD_listedTo {m n j : Nat} (hn : n ≤ m) (d : Bool) (hj : j < m) : (listedTo m n).getD j d = decide (j < n) := by
  unfold listedTo
  by_cases h : j < n
  · simp [Array.getD_eq_getD_getElem?, Array.getElem?_append, h]
  · have h1 : j - n < m - n := by omega
    simp [Array.getD_eq_getD_getElem?, Array.getElem?_append, h, h1]

theorem headB_dst {n m i : Nat} (h : headB md ops n m i = true) : ∃ o d, ops[i]? = some o ∧ o.guard = none ∧ o.dst = some d ∧ d < m ∧ (∀ j, j < n → j ≠ i → dst ops j ≠ some d) ∧ (∀ j, Region.waitsFor md ops i j = true → j < i) ∧ (∀ e ∈ o.after, Region.binds md e = true → e.on < i) := by
  have h' := h
  unfold headB at h
  split at h
  · rename_i o ho
    simp only [Bool.and_eq_true] at h
    obtain ⟨⟨⟨h1, h2⟩, h3⟩, h4⟩ := h
    split at h2
    · rename_i d hd
      simp only [Bool.and_eq_true, decide_eq_true_eq] at h2
      have hw : ∀ e ∈ o.after, Region.binds md e = true → e.on < i := fun e he hb => by
        have := Array.all_eq_true_iff_forall_mem.1 h4 e he
        simp only [hb, Bool.not_true, Bool.false_or, decide_eq_true_eq] at this
        exact this
      refine ⟨o, d, ho, Option.isNone_iff_eq_none.1 h1, hd, h2.1, fun j hj hji => ?_, fun j hj => ?_, hw⟩
      · have := List.all_eq_true.1 h2.2 j (List.mem_range.2 hj)
        simp only [Bool.or_eq_true, beq_iff_eq, hji, false_or, bne_iff_ne] at this
        exact this
      · obtain ⟨oj, hoj, e, he, hb, hon⟩ := Region.waitsFor_spec hj
        obtain rfl : oj = o := Option.some.inj (hoj.symm.trans ho)
        exact hon ▸ hw e he hb
    · cases h2
  · cases h

theorem main (hE : ∀ a b c, E a b → E b c → E a c) (hEB : ∀ a b, E a b → Below a.heap.size a b) {w0 : World} {R : Nat → Value → World → Prop} {O : Nat → Value → Nat → Prop} {Q : Exit → Act → World → Prop} {a0 : Act} {n : Nat} (hst : ∀ j v W W', R j v W → Below W.heap.size W W' → R j v W')
    (hn : n ≤ ops.size) (hsel : Region.noSelect ops = true) (hcase : n = ops.size ∨ (Region.sinkB md ops n = true ∧ Region.chainB md ops n = true)) (hh : ∀ i, i < n → headB md ops n a0.tmps.size i = true)
    (h1 : ∀ (us : Nat → Value) i o, i < n → ops[i]? = some o → ∀ w, E w0 w → (∀ j, Region.waitsFor md ops i j = true → R j (us j) w) → opFct E P o (lex ops us i a0) w (R i) (O i))
    (g : Nat) (h2 : ∀ (us : Nat → Value) (a : Act) w, a = lex ops us n a0 → E w0 w → (∀ j, j < n → R j (us j) w) → (∀ i j b, i < n → j < n → i ≠ j → O i (us i) b → ¬ O j (us j) b) → wpAny P md ops Q g (listedTo ops.size n) a w) :
    ∀ (u : Nat) (listed : Array Bool) (us : Nat → Value) (w : World), HeadInv md ops n listed → (List.range n).countP (fun j => !listed.getD j true) = u → E w0 w →
    (∀ j, j < n → listed.getD j false = true → R j (us j) w) → (∀ j b, j < n → listed.getD j false = true → O j (us j) b → b < w.heap.size) → (∀ i j b, i < n → j < n → i ≠ j → listed.getD i false = true → listed.getD j false = true → O i (us i) b → ¬ O j (us j) b) → wpAny P md ops Q (u + g) listed (puts ops us (fun j => listed.getD j false) (List.range n) a0) w := by
  intro u
  induction u with
  | zero =>
    intro listed us w inv hu hw hR hOb hO
    have hall : ∀ j, j < n → listed.getD j false = true := fun j hj => by
      have h0 := List.countP_eq_zero.1 hu j (List.mem_range.2 hj)
      have hjs : j < listed.size := by rw [inv.size]; omega
      simp only [Bool.not_eq_true, Bool.not_eq_false'] at h0
      simpa [Array.getD_eq_getD_getElem?, hjs] using h0
    have hl : listed = listedTo ops.size n := by
      refine Array.ext (by simp [inv.size, listedTo]; omega) (fun j h1 h2 => ?_)
      have hjs : j < ops.size := inv.size ▸ h1
      have e := getD_listedTo hn false hjs
      rw [Array.getD_eq_getD_getElem?, Array.getElem?_eq_getElem h2] at e
      simp only [Option.getD_some] at e
      rw [e]
      by_cases hjn : j < n
      · have := hall j hjn
        rw [Array.getD_eq_getD_getElem?, Array.getElem?_eq_getElem h1] at this
        simpa [hjn] using this
      · have := inv.tail j (by omega) hjs
        rw [Array.getD_eq_getD_getElem?, Array.getElem?_eq_getElem h1] at this
        simpa [hjn] using this
    rw [Nat.zero_add]
    have ha : puts ops us (fun j => listed.getD j false) (List.range n) a0 = lex ops us n a0 := puts_congr _ _ (fun j hj => hall j (List.mem_range.1 hj)) (fun _ _ _ => rfl)
    rw [ha]
    subst hl
    exact h2 us _ w rfl hw (fun j hj => hR j hj (hall j hj)) (fun i j b hi hj hij => hO i j b hi hj hij (hall i hi) (hall j hj))
  | succ u ih =>
    intro listed us w inv hu hw hR hOb hO
    have hpos : 0 < (List.range n).countP (fun j => !listed.getD j true) := by omega
    obtain ⟨i0, hi0, hi0'⟩ := List.countP_pos_iff.1 hpos
    have hi0n := List.mem_range.1 hi0
    have hun0 : listed.getD i0 true = false := by simpa using hi0'
    -- all that may come up lies in the head
    have hready : ∀ j ∈ Region.ready md ops listed, j < n := fun j hj => by
      rcases hcase with e | ⟨hs, hc⟩
      · obtain ⟨_, oj, hoj, _⟩ := mem_ready.1 hj
        rw [e]; exact (Array.getElem?_eq_some_iff.1 hoj).1
      · rcases Nat.lt_or_ge j n with h | h
        · exact h
        · by_cases hns : n < ops.size
          · exact absurd hj (tail_waits hs hc hns inv _ i0 rfl hi0n hun0 j h)
          · obtain ⟨_, oj, hoj, _⟩ := mem_ready.1 hj
            have := (Array.getElem?_eq_some_iff.1 hoj).1
            omega
    -- something may come up
    have hne : Region.ready md ops listed ≠ [] := by
      have hex : ∀ (k : Nat), k < n → listed.getD k true = false → ∃ i, i ∈ Region.ready md ops listed := by
        intro k
        induction k using Nat.strongRecOn with
        | _ k ihk =>
          intro hk hunk
          obtain ⟨o, d, ho, _, _, _, _, _, haft⟩ := headB_dst (hh k hk)
          by_cases hall : ∀ e ∈ o.after, Region.binds md e = true → listed.getD e.on false = true
          · exact ⟨k, mem_ready.2 ⟨hunk, o, ho, hall⟩⟩
          · simp only [Classical.not_forall] at hall
            obtain ⟨e, he, hb, hno⟩ := hall
            have hlt := haft e he hb
            have hs : e.on < listed.size := by rw [inv.size]; omega
            exact ihk e.on hlt (by omega) (getD_in hs (by simpa using hno))
      obtain ⟨i, hi⟩ := hex i0 hi0n hun0
      exact fun h => by rw [h] at hi; cases hi
    rw [show u + 1 + g = (u + g) + 1 by omega]
    refine ⟨fun h => absurd h hne, fun i hi => ?_⟩
    have hin := hready i hi
    obtain ⟨o, d, ho, hg, hd, hdm, hdist, hwf, _⟩ := headB_dst (hh i hin)
    obtain ⟨hun, o', ho', hall⟩ := mem_ready.1 hi
    obtain rfl : o' = o := Option.some.inj (ho'.symm.trans ho)
    have hdeps : ∀ j, Region.waitsFor md ops i j = true → listed.getD j false = true := fun j hj => by
      obtain ⟨oj, hoj, e, he, hb, hon⟩ := Region.waitsFor_spec hj
      obtain rfl : oj = o' := Option.some.inj (hoj.symm.trans ho)
      exact hon ▸ hall e he hb
    have hob := h1 us i o' hin ho w hw (fun j hj => hR j (Nat.lt_trans (hwf j hj) hin) (hdeps j hj))
    have hwant : Region.wanted o' (yielded ops (puts ops us (fun j => listed.getD j false) (List.range n) a0).tmps) = true := by
      unfold Region.wanted; rw [hg]
    unfold wpOp
    simp only [ho, hwant, if_true]
    refine .inl (op_at hd (by rw [lex, size_puts]; exact hdm) (fun cs c => Region.noSelect_spec hsel i o' cs c ho) (lex_eval ho (hh i hin) hin hdeps) hob (fun v w' hb' hRv hOv => ?_))
    have hdi : dst ops i = some d := by simp [dst, ho, hd]
    have hLi : listed.getD i false = false := getD_both hun
    rw [← puts_set (ops := ops) (vs := us) (L := fun j => listed.getD j false) (v := v) hdi (List.range n) a0 List.nodup_range (List.mem_range.2 hin) hLi (fun j hj hji => hdist j (List.mem_range.1 hj) hji)]
    have hsz : i < listed.size := by rw [inv.size]; omega
    have hfun : (fun j => if j = i then true else listed.getD j false) = (fun j => (listed.setIfInBounds i true).getD j false) := by
      funext j
      by_cases hji : j = i
      · subst hji; simp [Array.getD_eq_getD_getElem?, hsz]
      · rw [if_neg hji, getD_set_ne false (Ne.symm hji)]
    rw [hfun]
    refine ih _ _ _ (inv.set hi hin) ?_ (hE _ _ _ hw hb') (fun j hj hl => ?_) (fun j b hj hl hOj => ?_) (fun k j b hk hj hkj hlk hlj hOk => ?_)
    · -- one fewer
      have : ∀ (js : List Nat), js.Nodup → i ∈ js → js.countP (fun j => !(listed.setIfInBounds i true).getD j true) + 1 = js.countP (fun j => !listed.getD j true) := by
        intro js
        induction js with
        | nil => intro _ h; cases h
        | cons j js ihj =>
          intro hnd hm
          rw [List.nodup_cons] at hnd
          by_cases hji : j = i
          · subst hji
            have e1 : (listed.setIfInBounds j true).getD j true = true := by simp [Array.getD_eq_getD_getElem?, hsz]
            have e2 : js.countP (fun k => !(listed.setIfInBounds j true).getD k true) = js.countP (fun k => !listed.getD k true) :=
              List.countP_congr (fun k hk => by rw [getD_set_ne true (fun (e : j = k) => hnd.1 (by rw [e]; exact hk))])
            rw [List.countP_cons, List.countP_cons, e2, e1, hun]
            simp
          · have hm' : i ∈ js := by
              rcases List.mem_cons.1 hm with e | e
              · exact absurd e.symm hji
              · exact e
            have := ihj hnd.2 hm'
            rw [List.countP_cons, List.countP_cons, getD_set_ne true (Ne.symm hji)]
            omega
      have h3 := this (List.range n) List.nodup_range (List.mem_range.2 hin)
      omega
    · by_cases hji : j = i
      · subst hji; simpa using hRv
      · simp only [if_neg hji]
        rw [getD_set_ne false (Ne.symm hji)] at hl
        exact hst j _ _ _ (hR j hj hl) (hEB _ _ hb')
    · by_cases hji : j = i
      · subst hji; simp only [if_true] at hOj; exact (hOv b hOj).2
      · simp only [if_neg hji] at hOj
        rw [getD_set_ne false (Ne.symm hji)] at hl
        exact Nat.lt_of_lt_of_le (hOb j b hj hl hOj) (hEB _ _ hb').size
    · intro hOj
      by_cases hki : k = i
      · subst hki
        have hjk : j ≠ k := Ne.symm hkj
        simp only [if_true] at hOk
        simp only [if_neg hjk] at hOj
        rw [getD_set_ne false hkj] at hlj
        exact absurd (hOb j b hj hlj hOj) (Nat.not_lt.2 (hOv b hOk).1)
      · simp only [if_neg hki] at hOk
        rw [getD_set_ne false (Ne.symm hki)] at hlk
        by_cases hji : j = i
        · subst hji
          simp only [if_true] at hOj
          exact absurd (hOb k b hk hlk hOk) (Nat.not_lt.2 (hOv b hOj).1)
        · simp only [if_neg hji] at hOj
          rw [getD_set_ne false (Ne.symm hji)] at hlj
          exact hO k j b hk hj hkj hlk hlj hOk hOj
end Fct

/-- **A region that draws its order**: the first n operations lay new blocks alone (each met once, in whatever world its forerunners leave), the others follow in the order of the text. -/
theorem wp_region_facts_at (E : World → World → Prop) (hE : ∀ a b c, E a b → E b c → E a c) (hEB : ∀ a b, E a b → Below a.heap.size a b) (hE0 : ∀ w : World, E w { w with drawn := w.drawn + 1 }) {P : Program} {id : Nat} {Q : Exit → Act → World → Prop} {a : Act} {w : World} {l : List Oper} (n : Nat) (R : Nat → Value → World → Prop) (O : Nat → Value → Nat → Prop) (hm : P.follows .mixedOrders = true)
    (hB : Fct.factsB .any l.toArray n a.tmps.size = true) (hst : ∀ j v W W', R j v W → Below W.heap.size W W' → R j v W')
    (h : Fct.walk E P .any l.toArray w R O (fun a' w' => wpList P l.toArray Q (l.drop n) a' w') (l.take n) 0 (fun _ => undef) a) : (Code.region id l.toArray true).wp P Q a w := by
  simp only [Fct.factsB, Bool.and_eq_true, decide_eq_true_eq, Bool.or_eq_true, beq_iff_eq] at hB
  obtain ⟨⟨⟨⟨hn, hsel⟩, hcase⟩, hhead⟩, hseq⟩ := hB
  have hn' : n ≤ l.length := by simpa using hn
  have htl : (l.take n).length = n := by simp; omega
  have hdl : (l.drop n).length = l.toArray.size - n := by simp
  have hh : ∀ i, i < n → Fct.headB .any l.toArray n a.tmps.size i = true := fun i hi => List.all_eq_true.1 hhead i (List.mem_range.2 hi)
  have hat := fun us => Fct.walk_at (ops := l.toArray) (a0 := a) (fun _ _ _ _ => .inr trivial) us (l.take n) 0 (fun _ => undef) a (fun j hj => by
    have hj' : j < n := by rw [htl] at hj; exact hj
    simp [hj']) (fun j hj => absurd hj (Nat.not_lt_zero _)) rfl (fun i j _ hi hwt => by
      rw [htl, Nat.zero_add] at hi
      obtain ⟨_, _, _, _, _, _, _, hw, _⟩ := Fct.headB_dst (hh i hi)
      exact hw j hwt) h
  simp only [htl, Nat.zero_add] at hat
  have inv0 : HeadInv .any l.toArray n (Array.replicate l.toArray.size false) :=
    ⟨by simp, fun j oj _ hl => (by rw [getD_replicate_false] at hl; cases hl), fun t _ ht => getD_in (by simpa using ht) (getD_replicate_false _ _)⟩
  have key := Fct.main (E := E) hE hEB (P := P) (md := .any) (Q := Q) (a0 := a) (w0 := w) (R := R) (O := O) (ops := l.toArray) hst hn hsel hcase hh (fun us i o hi ho => (hat us).1 i o (Nat.zero_le _) hi ho) (l.toArray.size - n)
    (fun us a' w' ha hw hR hO => by
      subst ha
      have := wpAny_of_seq (md := .any) (Q' := Q) (l.drop n) n (Fct.listedTo l.toArray.size n) _ w' (fun j => by simp [List.getElem?_drop]) (by rw [hdl]; exact hseq) ((hat us).2 w' hw hR hO)
      rwa [hdl] at this)
    n (Array.replicate l.toArray.size false) (fun _ => undef) { w with drawn := w.drawn + 1 } inv0
    (by
      rw [List.countP_eq_length.2]
      · simp
      · intro j hj
        have hjn := List.mem_range.1 hj
        have : j < l.toArray.size := by omega
        simp only [Array.getD_eq_getD_getElem?]
        have hj2 : j < l.length := by omega
        simp [hj2])
    (hE0 w) (fun j _ hl => by rw [getD_replicate_false] at hl; cases hl) (fun j _ _ hl => by rw [getD_replicate_false] at hl; cases hl) (fun j _ _ _ _ _ hl => by rw [getD_replicate_false] at hl; cases hl)
  refine wp_region_any hm ?_
  have e0 : Fct.puts l.toArray (fun _ => undef) (fun j => (Array.replicate l.toArray.size false).getD j false) (List.range n) a = a := by
    have hnone : ∀ (ks : List Nat) (a : Act), Fct.puts l.toArray (fun _ => undef) (fun j => (Array.replicate l.toArray.size false).getD j false) ks a = a := by
      intro ks
      induction ks with
      | nil => intro a; rfl
      | cons k ks ih =>
        intro a
        show Fct.puts l.toArray _ _ ks (if (Array.replicate l.toArray.size false).getD k false = true then _ else a) = a
        rw [if_neg (by rw [getD_replicate_false]; simp)]
        exact ih a
    exact hnone _ _
  rw [e0, show n + (l.toArray.size - n) = l.toArray.size by omega] at key
  exact key

/-- The same, where what is kept is Below. -/
theorem wp_region_facts {P : Program} {id : Nat} {Q : Exit → Act → World → Prop} {a : Act} {w : World} {l : List Oper} (n : Nat) (R : Nat → Value → World → Prop) (O : Nat → Value → Nat → Prop) (hm : P.follows .mixedOrders = true)
    (hB : Fct.factsB .any l.toArray n a.tmps.size = true) (hst : ∀ j v W W', R j v W → Below W.heap.size W W' → R j v W')
    (h : Fct.walk (fun a b => Below a.heap.size a b) P .any l.toArray w R O (fun a' w' => wpList P l.toArray Q (l.drop n) a' w') (l.take n) 0 (fun _ => undef) a) : (Code.region id l.toArray true).wp P Q a w :=
  wp_region_facts_at _ (fun _ _ _ h k => h.trans (k.mono h.size)) (fun _ _ h => h) (fun w => (Below.refl w.heap.size w).drew) n R O hm hB hst h

/-- Below, and no draw is given back. -/
def Bd (a b : World) : Prop := Below a.heap.size a b ∧ a.drawn ≤ b.drawn
theorem Bd.refl (a : World) : Bd a a := ⟨Below.refl _ _, Nat.le_refl _⟩
theorem Bd.trans {a b c : World} (h : Bd a b) (k : Bd b c) : Bd a c := ⟨h.1.trans (k.1.mono h.1.size), Nat.le_trans h.2 k.2⟩
theorem Bd.laid {a b : World} (h : Bd a b) : ∃ q os, b = grow (a.drewN q) os := by
  obtain ⟨p, e⟩ := regrown_of_below h.1
  refine ⟨b.drawn - a.drawn, p.os, ?_⟩
  have hd : b.drawn = p.d := by rw [e]; rfl
  have h2 := h.2
  rw [e]
  have : a.drewN (p.d - a.drawn) = redrawn a p.d := by
    unfold World.drewN redrawn
    congr 1
    omega
  rw [show (grow (redrawn a p.d) p.os).drawn = p.d from rfl, this]
/-- The same, where no draw is given back either. -/
theorem wp_region_facts_d {P : Program} {id : Nat} {Q : Exit → Act → World → Prop} {a : Act} {w : World} {l : List Oper} (n : Nat) (R : Nat → Value → World → Prop) (O : Nat → Value → Nat → Prop) (hm : P.follows .mixedOrders = true)
    (hB : Fct.factsB .any l.toArray n a.tmps.size = true) (hst : ∀ j v W W', R j v W → Below W.heap.size W W' → R j v W')
    (h : Fct.walk Bd P .any l.toArray w R O (fun a' w' => wpList P l.toArray Q (l.drop n) a' w') (l.take n) 0 (fun _ => undef) a) : (Code.region id l.toArray true).wp P Q a w :=
  wp_region_facts_at _ (fun _ _ _ h k => h.trans k) (fun _ _ h => h.1) (fun w => ⟨(Below.refl w.heap.size w).drew, Nat.le_succ _⟩) n R O hm hB hst h
end Go.Proofs.YtiiegpklpmogmaaGreatDoor
