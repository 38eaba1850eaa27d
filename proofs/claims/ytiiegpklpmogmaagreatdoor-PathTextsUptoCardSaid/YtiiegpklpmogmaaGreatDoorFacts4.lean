/- A region that draws its order, writes and holds guarded operations all of which run. -/
import Derived.Test.YtiiegpklpmogmaaGreatDoorFacts3
set_option linter.unusedVariables false
set_option linter.unusedSimpArgs false
namespace Go.Proofs.YtiiegpklpmogmaaGreatDoor
open Go.RowKit Go.Sort

namespace Fct
variable {P : Program} {ops : Array Oper} {md : Region.Mode}

def headB4 (md : Region.Mode) (ops : Array Oper) (n m i : Nat) : Bool :=
  match ops[i]? with
  | some o => (match o.guard with | none => true | some (j, _) => decide (j < n) && (Region.waitsFor md ops i j && (dst ops j).isSome)) && (match o.dst with | some d => decide (d < m) && (List.range n).all (fun j => j == i || dst ops j != some d) | none => true) &&
      (o.looksAt ops).all (fun t => (List.range n).all fun j => dst ops j != some t || (decide (j < i) && Region.waitsFor md ops i j)) && o.after.all (fun e => !Region.binds md e || decide (e.on < i))
  | none => false

def factsB4 (md : Region.Mode) (ops : Array Oper) (n m : Nat) : Bool :=
  decide (n ≤ ops.size) && Region.noSelect ops && (n == ops.size || (Region.sinkB md ops n && Region.chainB md ops n)) && (List.range n).all (headB4 md ops n m) && Region.seqB md ops (ops.size - n) n (listedTo ops.size n)

theorem puts_keep {us : Nat → Value} {L : Nat → Bool} {d : Tmp} : ∀ (js : List Nat) (a : Act), (∀ k ∈ js, dst ops k ≠ some d) → (puts ops us L js a).tmps[d]? = a.tmps[d]?
  | [], _, _ => rfl
  | k :: js, a, h => by
    show (puts ops us L js _).tmps[d]? = _
    rw [puts_keep js _ (fun k' hk' => h k' (List.mem_cons_of_mem _ hk'))]
    split
    · cases hd : dst ops k with
      | none => rfl
      | some d' =>
        have hne : d' ≠ d := fun e => h k (by simp) (by rw [hd, e])
        simp [Act.put, Array.getElem?_setIfInBounds_ne hne]
    · rfl
theorem puts_at {us : Nat → Value} {L : Nat → Bool} {d : Tmp} {j : Nat} (hL : L j = true) (hd : dst ops j = some d) : ∀ (js : List Nat) (a : Act), js.Nodup → j ∈ js → d < a.tmps.size → (∀ k ∈ js, k ≠ j → dst ops k ≠ some d) → (puts ops us L js a).tmps[d]? = some (us j)
  | [], _, _, hm, _, _ => by cases hm
  | k :: js, a, hn, hm, hs, h => by
    rw [List.nodup_cons] at hn
    show (puts ops us L js _).tmps[d]? = _
    by_cases hkj : k = j
    · subst hkj
      rw [puts_keep js _ (fun k' hk' => h k' (List.mem_cons_of_mem _ hk') (fun e => hn.1 (e ▸ hk')))]
      simp only [hL, if_true, hd, Act.put, Array.getElem?_setIfInBounds_self_of_lt hs]
    · have hm' : j ∈ js := by
        rcases List.mem_cons.1 hm with e | e
        · exact absurd e.symm hkj
        · exact e
      refine puts_at hL hd js _ hn.2 hm' ?_ (fun k' hk' => h k' (List.mem_cons_of_mem _ hk'))
      split
      · rw [size_put]; exact hs
      · exact hs

theorem lex_eval4 {vs : Nat → Value} {L : Nat → Bool} {n m i : Nat} {o : Oper} {a : Act} (ho : ops[i]? = some o) (hh : headB4 md ops n m i = true) (hin : i < n)
    (hL : ∀ j, Region.waitsFor md ops i j = true → L j = true) : ∀ x ∈ o.op.operands, (puts ops vs L (List.range n) a).eval x = (lex ops vs i a).eval x := by
  intro x hx
  cases x with
  | tmp t =>
    unfold headB4 at hh
    simp only [ho, Bool.and_eq_true] at hh
    have ht : t ∈ o.looksAt ops := List.mem_append_left _ (List.mem_filterMap.2 ⟨.tmp t, by simpa using hx, rfl⟩)
    have h1 := List.all_eq_true.1 hh.1.2 t ht
    have e1 : (puts ops vs L (List.range n) a).tmps.getD t undef = (puts ops vs (fun j => decide (j < i)) (List.range n) a).tmps.getD t undef := by
      refine puts_get _ _ _ rfl rfl (fun j hj hd => ?_)
      have h2 := List.all_eq_true.1 h1 j hj
      simp only [hd, bne_self_eq_false, Bool.false_or, Bool.and_eq_true, decide_eq_true_eq] at h2
      rw [hL j h2.2, decide_eq_true h2.1]
    have e2 : puts ops vs (fun j => decide (j < i)) (List.range n) a = lex ops vs i a := by
      have hsplit : List.range n = List.range i ++ (List.range (n - i)).map (i + ·) := by
        rw [← List.range_add]; congr 1; omega
      rw [hsplit]
      have happ : ∀ (js ks : List Nat) (a : Act), puts ops vs (fun j => decide (j < i)) (js ++ ks) a = puts ops vs (fun j => decide (j < i)) ks (puts ops vs (fun j => decide (j < i)) js a) := by
        intro js
        induction js with
        | nil => intro ks a; rfl
        | cons j js ih => intro ks a; exact ih ks _
      rw [happ]
      have hnone : ∀ (ks : List Nat) (a : Act), (∀ k ∈ ks, ¬ k < i) → puts ops vs (fun j => decide (j < i)) ks a = a := by
        intro ks
        induction ks with
        | nil => intro a _; rfl
        | cons k ks ih =>
          intro a hk
          show puts ops vs _ ks (if decide (k < i) = true then _ else a) = a
          rw [if_neg (by simpa using hk k (by simp))]
          exact ih a (fun k' hk' => hk k' (List.mem_cons_of_mem _ hk'))
      rw [hnone _ _ (fun k hk => by obtain ⟨j, _, rfl⟩ := List.mem_map.1 hk; omega)]
      exact puts_congr _ _ (fun j hj => by simpa using List.mem_range.1 hj) (fun _ _ _ => rfl)
    show (puts ops vs L (List.range n) a).tmps.getD t undef = (lex ops vs i a).tmps.getD t undef
    rw [e1, e2]
  | _ => rfl

theorem headB4_dst {n m i : Nat} (h : headB4 md ops n m i = true) : ∃ o, ops[i]? = some o ∧ (∀ j b, o.guard = some (j, b) → j < n ∧ Region.waitsFor md ops i j = true ∧ (dst ops j).isSome = true) ∧ (∀ d, o.dst = some d → d < m ∧ ∀ j, j < n → j ≠ i → dst ops j ≠ some d) ∧ (∀ j, Region.waitsFor md ops i j = true → j < i) ∧ (∀ e ∈ o.after, Region.binds md e = true → e.on < i) := by
  unfold headB4 at h
  split at h
  · rename_i o ho
    simp only [Bool.and_eq_true] at h
    obtain ⟨⟨⟨h1, h2⟩, h3⟩, h4⟩ := h
    have hw : ∀ e ∈ o.after, Region.binds md e = true → e.on < i := fun e he hb => by
      have := Array.all_eq_true_iff_forall_mem.1 h4 e he
      simp only [hb, Bool.not_true, Bool.false_or, decide_eq_true_eq] at this
      exact this
    refine ⟨o, ho, fun j b hg => ?_, fun d hd => ?_, fun j hj => ?_, hw⟩
    · rw [hg] at h1
      simp only [Bool.and_eq_true, decide_eq_true_eq] at h1
      exact ⟨h1.1, h1.2.1, h1.2.2⟩
    · rw [hd] at h2
      simp only [Bool.and_eq_true, decide_eq_true_eq] at h2
      refine ⟨h2.1, fun j hj hji => ?_⟩
      have := List.all_eq_true.1 h2.2 j (List.mem_range.2 hj)
      simp only [Bool.or_eq_true, beq_iff_eq, hji, false_or, bne_iff_ne] at this
      exact this
    · obtain ⟨oj, hoj, e, he, hb, hon⟩ := Region.waitsFor_spec hj
      obtain rfl : oj = o := Option.some.inj (hoj.symm.trans ho)
      exact hon ▸ hw e he hb
  · cases h

theorem main4 {Inv : (Nat → Bool) → (Nat → Value) → World → Prop} {Q : Exit → Act → World → Prop} {a0 : Act} {n : Nat}
    (hn : n ≤ ops.size) (hsel : Region.noSelect ops = true) (hcase : n = ops.size ∨ (Region.sinkB md ops n = true ∧ Region.chainB md ops n = true)) (hh : ∀ i, i < n → headB4 md ops n a0.tmps.size i = true)
    (hgd : ∀ (L : Nat → Bool) (us : Nat → Value) w, Inv L us w → ∀ i o j b, i < n → ops[i]? = some o → o.guard = some (j, b) → L j = true → us j = .bool b)
    (h1 : ∀ (L : Nat → Bool) (us : Nat → Value) i o, i < n → ops[i]? = some o → L i = false → ∀ w, Inv L us w → (∀ j, Region.waitsFor md ops i j = true → L j = true) → (∀ j k, L j = true → Region.waitsFor md ops j k = true → L k = true) →
      o.wp P (lex ops us i a0) w (fun a' w' => ∃ v, a' = (lex ops us i a0).put o.dst v ∧ Inv (mark L i) (laid us i v) w') (fun _ _ _ => False))
    (g : Nat) (h2 : ∀ (L : Nat → Bool) (us : Nat → Value) (a : Act) w, a = lex ops us n a0 → (∀ j, j < n → L j = true) → Inv L us w → wpAny P md ops Q g (listedTo ops.size n) a w) :
    ∀ (u : Nat) (listed : Array Bool) (us : Nat → Value) (w : World), HeadInv md ops n listed → (List.range n).countP (fun j => !listed.getD j true) = u → Inv (fun j => listed.getD j false) us w →
      wpAny P md ops Q (u + g) listed (puts ops us (fun j => listed.getD j false) (List.range n) a0) w := by
  intro u
  induction u with
  | zero =>
    intro listed us w inv hu hI
    have hall : ∀ j, j < n → listed.getD j false = true := fun j hj => by
      have h0 := List.countP_eq_zero.1 hu j (List.mem_range.2 hj)
      have hjs : j < listed.size := by rw [inv.size]; omega
      simp only [Bool.not_eq_true, Bool.not_eq_false'] at h0
      simpa [Array.getD_eq_getD_getElem?, hjs] using h0
    have hl : listed = listedTo ops.size n := by
      refine Array.ext (by simp [inv.size, listedTo]; omega) (fun j h1 h2 => ?_)
      have hjs : j < ops.size := inv.size ▸ h1
      have e := getD_listedTo hn false hjs
      rw [Array.getD_eq_getD_getElem?, Array.getElem?_eq_getElem h2] at e
      simp only [Option.getD_some] at e
      rw [e]
      by_cases hjn : j < n
      · have := hall j hjn
        rw [Array.getD_eq_getD_getElem?, Array.getElem?_eq_getElem h1] at this
        simpa [hjn] using this
      · have := inv.tail j (by omega) hjs
        rw [Array.getD_eq_getD_getElem?, Array.getElem?_eq_getElem h1] at this
        simpa [hjn] using this
    rw [Nat.zero_add]
    have ha : puts ops us (fun j => listed.getD j false) (List.range n) a0 = lex ops us n a0 := puts_congr _ _ (fun j hj => hall j (List.mem_range.1 hj)) (fun _ _ _ => rfl)
    rw [ha]
    have h3 := h2 _ us _ w rfl hall hI
    rw [← hl] at h3
    exact h3
  | succ u ih =>
    intro listed us w inv hu hI
    have hpos : 0 < (List.range n).countP (fun j => !listed.getD j true) := by omega
    obtain ⟨i0, hi0, hi0'⟩ := List.countP_pos_iff.1 hpos
    have hi0n := List.mem_range.1 hi0
    have hun0 : listed.getD i0 true = false := by simpa using hi0'
    have hready : ∀ j ∈ Region.ready md ops listed, j < n := fun j hj => by
      rcases hcase with e | ⟨hs, hc⟩
      · obtain ⟨_, oj, hoj, _⟩ := mem_ready.1 hj
        rw [e]; exact (Array.getElem?_eq_some_iff.1 hoj).1
      · rcases Nat.lt_or_ge j n with h | h
        · exact h
        · by_cases hns : n < ops.size
          · exact absurd hj (tail_waits hs hc hns inv _ i0 rfl hi0n hun0 j h)
          · obtain ⟨_, oj, hoj, _⟩ := mem_ready.1 hj
            have := (Array.getElem?_eq_some_iff.1 hoj).1
            omega
    have hne : Region.ready md ops listed ≠ [] := by
      have hex : ∀ (k : Nat), k < n → listed.getD k true = false → ∃ i, i ∈ Region.ready md ops listed := by
        intro k
        induction k using Nat.strongRecOn with
        | _ k ihk =>
          intro hk hunk
          obtain ⟨o, ho, _, _, _, haft⟩ := headB4_dst (hh k hk)
          by_cases hall : ∀ e ∈ o.after, Region.binds md e = true → listed.getD e.on false = true
          · exact ⟨k, mem_ready.2 ⟨hunk, o, ho, hall⟩⟩
          · simp only [Classical.not_forall] at hall
            obtain ⟨e, he, hb, hno⟩ := hall
            have hlt := haft e he hb
            have hs : e.on < listed.size := by rw [inv.size]; omega
            exact ihk e.on hlt (by omega) (getD_in hs (by simpa using hno))
      obtain ⟨i, hi⟩ := hex i0 hi0n hun0
      exact fun h => by rw [h] at hi; cases hi
    rw [show u + 1 + g = (u + g) + 1 by omega]
    refine ⟨fun h => absurd h hne, fun i hi => ?_⟩
    have hin := hready i hi
    obtain ⟨o, ho, hg, hdd, hwf, _⟩ := headB4_dst (hh i hin)
    obtain ⟨hun, o', ho', hall⟩ := mem_ready.1 hi
    obtain rfl : o' = o := Option.some.inj (ho'.symm.trans ho)
    have hLi : listed.getD i false = false := getD_both hun
    have hdeps : ∀ j, Region.waitsFor md ops i j = true → listed.getD j false = true := fun j hj => by
      obtain ⟨oj, hoj, e, he, hb, hon⟩ := Region.waitsFor_spec hj
      obtain rfl : oj = o' := Option.some.inj (hoj.symm.trans ho)
      exact hon ▸ hall e he hb
    have hclosed : ∀ j k, listed.getD j false = true → Region.waitsFor md ops j k = true → listed.getD k false = true := fun j k hj hk => by
      obtain ⟨oj, hoj, e, he, hb, hon⟩ := Region.waitsFor_spec hk
      exact hon ▸ inv.closed j oj hoj hj e he hb
    have hob := h1 (fun j => listed.getD j false) us i o' hin ho hLi w hI hdeps hclosed
    have hwant : Region.wanted o' (yielded ops (puts ops us (fun j => listed.getD j false) (List.range n) a0).tmps) = true := by
      unfold Region.wanted
      cases hgg : o'.guard with
      | none => rfl
      | some jb =>
        obtain ⟨j, b⟩ := jb
        obtain ⟨hjn, hwj, hds⟩ := hg j b hgg
        obtain ⟨d, hdj⟩ := Option.isSome_iff_exists.1 hds
        obtain ⟨oj, hoj, _, hddj, _, _⟩ := headB4_dst (hh j hjn)
        have hdj' : oj.dst = some d := by have := hdj; simpa only [dst, hoj, Option.bind_some] using this
        have hat := puts_at (us := us) (L := fun j => listed.getD j false) (hdeps j hwj) hdj (List.range n) a0 List.nodup_range (List.mem_range.2 hjn) (hddj d hdj').1 (fun k hk hkj => (hddj d hdj').2 k (List.mem_range.1 hk) hkj)
        have hval := hgd _ us w hI i o' j b hin ho hgg (hdeps j hwj)
        have hy : yielded ops (puts ops us (fun j => listed.getD j false) (List.range n) a0).tmps j = some b := by
          unfold yielded
          have e1 : (ops[j]?).bind (·.dst) = some d := hdj
          rw [e1]
          simp only [Option.bind_some]
          rw [hat, hval]
        show (yielded ops (puts ops us (fun j => listed.getD j false) (List.range n) a0).tmps j == some b) = true
        rw [hy]
        exact beq_self_eq_true _
    unfold wpOp
    simp only [ho, hwant, if_true]
    refine .inl (op_at3 (fun t ht => by rw [lex, size_puts]; exact (hdd t ht).1) (fun cs c => Region.noSelect_spec hsel i o' cs c ho) (lex_eval4 ho (hh i hin) hin hdeps) hob (fun v w' hI' => ?_))
    have hdi : dst ops i = o'.dst := by simp [dst, ho]
    have hsz : i < listed.size := by rw [inv.size]; omega
    have hfun : (fun j => if j = i then true else listed.getD j false) = (fun j => (listed.setIfInBounds i true).getD j false) := by
      funext j
      by_cases hji : j = i
      · subst hji; simp [Array.getD_eq_getD_getElem?, hsz]
      · rw [if_neg hji, getD_set_ne false (Ne.symm hji)]
    have hput : (puts ops us (fun j => listed.getD j false) (List.range n) a0).put o'.dst v = puts ops (fun j => if j = i then v else us j) (fun j => (listed.setIfInBounds i true).getD j false) (List.range n) a0 := by
      rw [← hfun]
      cases hd : o'.dst with
      | none =>
        rw [puts_unset (hdi.trans hd)]
        rfl
      | some d =>
        rw [puts_set (hdi.trans hd) (List.range n) a0 List.nodup_range (List.mem_range.2 hin) hLi (fun j hj hji => (hdd d hd).2 j (List.mem_range.1 hj) hji)]
    rw [hput]
    refine ih _ _ _ (inv.set hi hin) ?_ (by rw [← hfun]; exact hI')
    have : ∀ (js : List Nat), js.Nodup → i ∈ js → js.countP (fun j => !(listed.setIfInBounds i true).getD j true) + 1 = js.countP (fun j => !listed.getD j true) := by
      intro js
      induction js with
      | nil => intro _ h; cases h
      | cons j js ihj =>
        intro hnd hm
        rw [List.nodup_cons] at hnd
        by_cases hji : j = i
        · subst hji
          have e1 : (listed.setIfInBounds j true).getD j true = true := by simp [Array.getD_eq_getD_getElem?, hsz]
          have e2 : js.countP (fun k => !(listed.setIfInBounds j true).getD k true) = js.countP (fun k => !listed.getD k true) :=
            List.countP_congr (fun k hk => by rw [getD_set_ne true (fun (e : j = k) => hnd.1 (by rw [e]; exact hk))])
          rw [List.countP_cons, List.countP_cons, e2, e1, hun]
          simp
        · have hm' : i ∈ js := by
            rcases List.mem_cons.1 hm with e | e
            · exact absurd e.symm hji
            · exact e
          have := ihj hnd.2 hm'
          rw [List.countP_cons, List.countP_cons, getD_set_ne true (Ne.symm hji)]
          omega
    have h3 := this (List.range n) List.nodup_range (List.mem_range.2 hin)
    omega

end Fct

/-- **A region that draws its order, writes and holds guarded operations, all of which run**: what stands (Inv) is kept by each of the first n operations, whichever of them have come up; the others follow in the order of the text. -/
theorem wp_region_facts4 {P : Program} {id : Nat} {Q : Exit → Act → World → Prop} {a : Act} {w : World} {l : List Oper} (n : Nat) (Inv : (Nat → Bool) → (Nat → Value) → World → Prop) (hm : P.follows .mixedOrders = true)
    (hB : Fct.factsB4 .any l.toArray n a.tmps.size = true) (h0 : ∀ us, Inv (fun _ => false) us { w with drawn := w.drawn + 1 })
    (hgd : ∀ (L : Nat → Bool) (us : Nat → Value) W, Inv L us W → ∀ i o j b, i < n → l[i]? = some o → o.guard = some (j, b) → L j = true → us j = .bool b)
    (hop : Fct.obl3 P .any l.toArray Inv a (l.take n) 0)
    (hen : ∀ (L : Nat → Bool) (us : Nat → Value) (W : World), (∀ j, j < n → L j = true) → Inv L us W → wpList P l.toArray Q (l.drop n) (Fct.fin us (l.take n) 0 a) W) : (Code.region id l.toArray true).wp P Q a w := by
  simp only [Fct.factsB4, Bool.and_eq_true, decide_eq_true_eq, Bool.or_eq_true, beq_iff_eq] at hB
  obtain ⟨⟨⟨⟨hn, hsel⟩, hcase⟩, hhead⟩, hseq⟩ := hB
  have hn' : n ≤ l.length := by simpa using hn
  have htl : (l.take n).length = n := by simp; omega
  have hdl : (l.drop n).length = l.toArray.size - n := by simp
  have hh : ∀ i, i < n → Fct.headB4 .any l.toArray n a.tmps.size i = true := fun i hi => List.all_eq_true.1 hhead i (List.mem_range.2 hi)
  have hds : ∀ i d, i < n → Fct.dst l.toArray i = some d → d < a.tmps.size := fun i d hi hd => by
    obtain ⟨o, ho, _, hlt, _⟩ := Fct.headB4_dst (hh i hi)
    have : Fct.dst l.toArray i = o.dst := by simp only [Fct.dst, ho]; rfl
    rw [hd] at this
    exact (hlt d this.symm).1
  have hfin : ∀ us : Nat → Value, Fct.fin us (l.take n) 0 a = Fct.lex l.toArray us n a := fun us => by
    have := Fct.fin_eq (ops := l.toArray) us a (l.take n) 0 (fun j hj => by
      have hj' : j < n := by rw [htl] at hj; exact hj
      simp [hj'])
    rw [htl, Nat.zero_add] at this
    exact this
  have inv0 : HeadInv .any l.toArray n (Array.replicate l.toArray.size false) :=
    ⟨by simp, fun j oj _ hl => (by rw [getD_replicate_false] at hl; cases hl), fun t _ ht => getD_in (by simpa using ht) (getD_replicate_false _ _)⟩
  have key := Fct.main4 (P := P) (md := .any) (Q := Q) (a0 := a) (Inv := Inv) (ops := l.toArray) hn hsel hcase hh (fun L us W hI i o j b hi ho => hgd L us W hI i o j b hi (by simpa using ho))
    (fun L us i o hi ho hLi W hI hd hc => by
      have ho' : (l.take n)[i]? = some o := by
        rw [List.getElem?_take, if_pos hi]
        simpa using ho
      have h1 := Fct.obl3_at (l.take n) 0 hop i o ho' L us W (by rw [Nat.zero_add]; exact hLi) hI (by rw [Nat.zero_add]; exact hd) hc (Fct.lex l.toArray us i a) (fun t => by rw [Nat.zero_add]; exact Fct.lex_rdF hds us t i (Nat.le_of_lt hi))
      rw [Nat.zero_add] at h1
      exact h1) (l.toArray.size - n)
    (fun L us a' w' ha hL hI => by
      subst ha
      have hX := hen L us w' hL hI
      rw [hfin us] at hX
      have := wpAny_of_seq (md := .any) (Q' := Q) (l.drop n) n (Fct.listedTo l.toArray.size n) _ w' (fun j => by simp [List.getElem?_drop]) (by rw [hdl]; exact hseq) hX
      rwa [hdl] at this)
    n (Array.replicate l.toArray.size false) (fun _ => undef) { w with drawn := w.drawn + 1 } inv0
    (by
      rw [List.countP_eq_length.2]
      · simp
      · intro j hj
        have hjn := List.mem_range.1 hj
        have : j < l.toArray.size := by omega
        simp only [Array.getD_eq_getD_getElem?]
        have hj2 : j < l.length := by omega
        simp [hj2])
    (by
      have e : (fun j => (Array.replicate l.toArray.size false).getD j false) = fun _ => false := funext fun j => getD_replicate_false _ _
      rw [e]; exact h0 _)
  refine wp_region_any hm ?_
  have e0 : Fct.puts l.toArray (fun _ => undef) (fun j => (Array.replicate l.toArray.size false).getD j false) (List.range n) a = a := by
    have hnone : ∀ (ks : List Nat) (a : Act), Fct.puts l.toArray (fun _ => undef) (fun j => (Array.replicate l.toArray.size false).getD j false) ks a = a := by
      intro ks
      induction ks with
      | nil => intro a; rfl
      | cons k ks ih =>
        intro a
        show Fct.puts l.toArray _ _ ks (if (Array.replicate l.toArray.size false).getD k false = true then _ else a) = a
        rw [if_neg (by rw [getD_replicate_false]; simp)]
        exact ih a
    exact hnone _ _
  rw [e0, show n + (l.toArray.size - n) = l.toArray.size by omega] at key
  exact key
end Go.Proofs.YtiiegpklpmogmaaGreatDoor
