/- Regions that draw their order, in the swifter evaluator. -/
import Derived.Test.YtaoaddokgofifaaGreatFvJ
namespace Go.Fv
open Go.Ev

section
variable {P : Program} {T : TT} {X : Prims} {D m : Nat}

def stOf (m : Nat) (x : NT D × AH × Value) : St × Value := (⟨toL m x.1, x.2.1⟩, x.2.2)
def headHeap (tr : List (St × Value)) (last : St) : AH := match tr with | (s, _) :: _ => s.heap | [] => last.heap
def TidyS (ops : Array Oper) : List Oper → List (St × Value) → St → Prop
  | [], _, _ => True
  | o :: l, (s, _) :: tr, last => s.heap.next ≤ (headHeap tr last).next ∧ (stillOp o.op || !wantedL ops s.tmps o || o.op.operands.toList.all fun x => belowV s.heap.next (envL s.tmps x)) = true ∧
      o.op.operands.toList.all okOperand = true ∧ TidyS ops l tr last
  | _ :: _, [], _ => False

theorem cTr_ok (hD : m ≤ 8 ^ D) {ops : Array Oper} {rc : RC} (hrc : RCOK P T X rc) {k : NT D → AH → TrL D → Ans} {r : Value × AH} : ∀ {l : List Oper} {t : NT D} {H : AH} {acc : TrL D}, (cTr P T D m ops l).run rc t H acc k = some r →
    ∃ (n : Nat) (new : TrL D) (t' : NT D) (H' : AH), traceW P T X (evCode P T X n) ops l ⟨toL m t, H⟩ = some (new.map (stOf m), ⟨toL m t', H'⟩) ∧ k t' H' (new.reverse ++ acc) = some r ∧ TidyS ops l (new.map (stOf m)) ⟨toL m t', H'⟩ ∧ new.length = l.length ∧
      headHeap (new.map (stOf m)) ⟨toL m t', H'⟩ = H
  | [], t, H, acc, h => ⟨0, [], t, H, rfl, h, trivial, rfl, rfl⟩
  | o :: l, t, H, acc, h => by
    simp only [cTr] at h
    cases ho : cOne P T D m true ops o with
    | mk f => cases hl : cTr P T D m ops l with
      | mk g =>
        rw [ho, hl] at h
        have h1 : (cOne P T D m true ops o).run rc t H (fun v t' H' => g rc t' H' ((t, H, v) :: acc) k) = some r := by rw [ho]; exact h
        obtain ⟨n1, v, t1, H1, h2, h3, h4, h5, h6⟩ := cOne_ok hD hrc h1
        obtain ⟨h7, h8⟩ := h6 rfl
        have ih := cTr_ok hD (ops := ops) hrc (k := k) (r := r) (l := l) (t := t1) (H := H1) (acc := (t, H, v) :: acc)
        rw [hl] at ih
        obtain ⟨n2, new, t2, H2, h9, h10, h11, h12, h13⟩ := ih h4
        refine ⟨max n1 n2, (t, H, v) :: new, t2, H2, ?_, by simpa using h10, ⟨?_, h8, h5, h11⟩, by simp [h12], rfl⟩
        · unfold traceW
          rw [evOneW_le (evCode_le (Nat.le_max_left n1 n2)) h2]
          simp only
          rw [← h3, traceW_le (evCode_le (Nat.le_max_right n1 n2)) h9]
          rfl
        · show H.next ≤ _
          rw [h13]; exact h7

theorem TidyS.get {ops : Array Oper} : ∀ {l : List Oper} {tr : List (St × Value)} {last : St}, TidyS ops l tr last → ∀ {i : Nat} {o : Oper}, l[i]? = some o →
    ∃ s v, tr[i]? = some (s, v) ∧ s.heap.next ≤ (heapAhead tr last (i + 1)).next ∧ (stillOp o.op || !wantedL ops s.tmps o || o.op.operands.toList.all fun x => belowV s.heap.next (envL s.tmps x)) = true ∧ o.op.operands.toList.all okOperand = true
  | [], _, _, _, i, o, h => by simp at h
  | _ :: _, [], _, hT, _, _, _ => hT.elim
  | o' :: l, (s, v) :: tr, last, hT, 0, o, h => by
    simp only [List.getElem?_cons_zero, Option.some.injEq] at h
    subst h
    refine ⟨s, v, rfl, ?_, hT.2.1, hT.2.2.1⟩
    have : heapAhead ((s, v) :: tr) last (0 + 1) = headHeap tr last := by
      cases tr <;> rfl
    rw [this]; exact hT.1
  | o' :: l, (s, v) :: tr, last, hT, i + 1, o, h => by
    obtain ⟨s', v', h1, h2, h3, h4⟩ := TidyS.get hT.2.2.2 (i := i) (o := o) (by simpa using h)
    exact ⟨s', v', by simpa using h1, h2, h3, h4⟩

theorem tidy_of {ops : Array Oper} {tr : List (St × Value)} {last : St} (h : TidyS ops ops.toList tr last) : tidyW ops tr last = true := by
  unfold tidyW
  rw [List.all_eq_true]
  intro i hi
  have hi := List.mem_range.1 hi
  have ho : ops[i]? = some ops[i] := Array.getElem?_eq_getElem hi
  obtain ⟨s, v, h1, h2, h3, _⟩ := h.get (i := i) (o := ops[i]) (by rw [Array.getElem?_toList]; exact ho)
  rw [ho, h1]
  simp only [Bool.and_eq_true]
  exact ⟨Nat.ble_eq_true_of_le h2, h3⟩

/-! ### what is read is read the same -/
def SameAt (P : Program) (T : TT) (m : Nat) (ops : Array Oper) (o : Oper) (t : NT D) (v : Value) (H : AH) : Prop :=
  o.op.operands.toList.all okOperand = true → wantedL ops (toL m t) o = true → ∃ v' H2, evOp P T (envL (toL m t)) o.op H = some (v', H2) ∧ eqV v v' = true ∧ (o.op.operands.toList.all fun x => belowV H.next (envL (toL m t) x)) = true

theorem evRead_op {env : Operand → Value} {o : Op} {H : AH} {v : Value} (h : evRead P T env o H = some v) : evOp P T env o H = some (v, H) := by
  unfold evRead at h
  split at h
  · simp only [evOp, h]; rfl
  · simp only [evOp, h]; rfl
  · simp only [evOp, builtinV, h]; rfl
  · cases h

theorem cBelow_k {t : NT D} {n : Nat} {k : Ans} {r : Value × AH} : ∀ {l : List Operand}, (cBelow D m l).run t n k = some r → k = some r
  | [], h => h
  | .tmp i :: l, h => by
    simp only [cBelow] at h
    cases hx : cArg D m (.tmp i) with
    | mk f => cases hl : cBelow D m l with
      | mk g =>
        rw [hx, hl] at h
        have ih := cBelow_k (t := t) (n := n) (k := k) (r := r) (l := l)
        rw [hl] at ih
        exact ih (belowC_eq h).2
  | .const v :: l, h => cBelow_k (l := l) h
  | .global g :: l, h => cBelow_k (l := l) h
  | .func f :: l, h => cBelow_k (l := l) h

theorem cSame1_ok {o : Op} {t : NT D} {v : Value} {H : AH} {k : Ans} {r : Value × AH} (h : (cSame1 P T D m o).run t v H k = some r) :
    (o.operands.toList.all okOperand = true → ∃ v' H2, evOp P T (envL (toL m t)) o H = some (v', H2) ∧ eqV v v' = true ∧ (o.operands.toList.all fun x => belowV H.next (envL (toL m t) x)) = true) ∧ k = some r := by
  have gen : ∀ {o : Op}, (match cBelow D m o.operands.toList with | ⟨g⟩ => (⟨fun t v H k => optV (evRead P T (envN m t) o H) (fun v' => iteC (eqV v v') (g t H.next k) none)⟩ : Sm D)).run t v H k = some r →
      (o.operands.toList.all okOperand = true → ∃ v' H2, evOp P T (envL (toL m t)) o H = some (v', H2) ∧ eqV v v' = true ∧ (o.operands.toList.all fun x => belowV H.next (envL (toL m t) x)) = true) ∧ k = some r := fun {o} h => by
    cases hg : cBelow D m o.operands.toList with
    | mk g =>
      rw [hg] at h
      dsimp only at h
      obtain ⟨v', h1, h2⟩ := optV_eq h
      obtain ⟨h3, h4⟩ := iteC_true h2
      rw [envN_eq] at h1
      have h4' : (cBelow D m o.operands.toList).run t H.next k = some r := by rw [hg]; exact h4
      exact ⟨fun ho => ⟨v', H, evRead_op h1, h3, (cBelow_eq ho h4').1⟩, cBelow_k h4'⟩
  cases o with
  | load ty a =>
    simp only [cSame1] at h
    cases hx : cArg D m a with
    | mk f =>
      have slow : optV (loadV T H ty (f t)) (fun v' => iteC (eqV v v') (belowC H.next (f t) k) none) = some r →
          ((Op.load ty a).operands.toList.all okOperand = true → ∃ v' H2, evOp P T (envL (toL m t)) (.load ty a) H = some (v', H2) ∧ eqV v v' = true ∧ ((Op.load ty a).operands.toList.all fun x => belowV H.next (envL (toL m t) x)) = true) ∧ k = some r := fun h => by
        obtain ⟨v', h1, h2⟩ := optV_eq h
        obtain ⟨h3, h4⟩ := iteC_true h2
        obtain ⟨h5, h6⟩ := belowC_eq h4
        rw [arg_of hx] at h1 h5
        refine ⟨fun _ => ⟨v', H, by simp only [evOp, h1]; rfl, h3, ?_⟩, h6⟩
        simp [Op.operands, h5]
      rw [hx] at h
      cases ha : aggT T ty with
      | none => rw [ha] at h; exact slow h
      | some b =>
        rw [ha] at h
        cases b with
        | true => exact slow h
        | false =>
          obtain ⟨b, o, h1, h2⟩ := vPtr_eq h
          obtain ⟨h3, h4⟩ := iteC_true h2
          obtain ⟨c, e, h5, h6⟩ := cellsAt_eq h4
          obtain ⟨v', h7, h8⟩ := cellK_eq h6
          obtain ⟨h9, h10⟩ := iteC_true h8
          rw [arg_of hx] at h1
          refine ⟨fun _ => ⟨v', H, ?_, h9, ?_⟩, h10⟩
          · simp only [evOp, h1, loadV, h5, ha, h7]; rfl
          · simp only [Op.operands, List.all_cons, List.all_nil, Bool.and_true, h1]
            exact h3
  | _ => exact gen h

theorem cSame_ok {ops : Array Oper} {o : Oper} {t : NT D} {v : Value} {H : AH} {k : Ans} {r : Value × AH} (h : (cSame P T D m ops o).run t v H k = some r) : SameAt P T m ops o t v H ∧ k = some r := by
  simp only [cSame] at h
  cases hf : cSame1 P T D m o.op with
  | mk f =>
    rw [hf] at h
    have base : ∀ {k : Ans}, f t v H k = some r → (o.op.operands.toList.all okOperand = true → ∃ v' H2, evOp P T (envL (toL m t)) o.op H = some (v', H2) ∧ eqV v v' = true ∧ (o.op.operands.toList.all fun x => belowV H.next (envL (toL m t) x)) = true) ∧ k = some r := fun h =>
      cSame1_ok (D := D) (m := m) (by rw [hf]; exact h)
    cases hg : o.guard with
    | none =>
      rw [hg] at h
      obtain ⟨h1, h2⟩ := base h
      exact ⟨fun ho _ => h1 ho, h2⟩
    | some jw =>
      obtain ⟨j, want⟩ := jw
      rw [hg] at h
      dsimp only at h
      cases hs : guardOf ops j with
      | none => rw [hs] at h; cases h
      | some s =>
        rw [hs] at h
        dsimp only at h
        split at h
        · rename_i hsm
          have hsm := blt_of hsm
          cases hgt : cGet D s with
          | mk g =>
            rw [hgt] at h
            dsimp only at h
            have eg : g t = getN D s t := by
              have := cGet_run D s t
              rw [hgt] at this; exact this
            have hwn := wanted_some (D := D) (m := m) hg hs hsm t
            rcases isB_eq h with ⟨h1, h2⟩ | ⟨h1, h2⟩
            · obtain ⟨h3, h4⟩ := base h2
              exact ⟨fun ho _ => h3 ho, h4⟩
            · rw [eg] at h1
              exact ⟨fun _ hw => absurd (hwn.1 hw) h1, h2⟩
        · cases h

theorem accK_eq {r : Value × AH} : ∀ {l : TrL D} {i : Nat} {k : NT D → AH → Value → Ans}, accK l i k = some r → ∃ t H v, l[i]? = some (t, H, v) ∧ k t H v = some r
  | [], _, _, h => by cases h
  | (t, H, v) :: _, 0, _, h => ⟨t, H, v, rfl, h⟩
  | _ :: l, i + 1, k, h => accK_eq (l := l) (i := i) (k := k) h

/-- The heap of a step, or of the end. -/
def heapOf (n : Nat) (acc : TrL D) (H : AH) (q : Nat) (Hq : AH) : Prop := (q = n ∧ Hq = H) ∨ (q ≠ n ∧ ∃ t v, acc[n - 1 - q]? = some (t, Hq, v))

theorem cChk_ok {n i : Nat} {f : NT D → Value → AH → Ans → Ans} {S : NT D → Value → AH → Prop} {r : Value × AH} (hf : ∀ {t v H k}, f t v H k = some r → S t v H ∧ k = some r) {acc : TrL D} {H : AH} {k : Ans} :
    ∀ {qs : List Nat}, (cChk n i f qs).run acc H k = some r → (∀ q ∈ qs, ∃ t Hi v Hq, acc[n - 1 - i]? = some (t, Hi, v) ∧ heapOf n acc H q Hq ∧ S t v Hq) ∧ k = some r
  | [], h => ⟨fun _ hq => (by cases hq), h⟩
  | q :: qs, h => by
    simp only [cChk] at h
    cases hg : cChk n i f qs with
    | mk g =>
      rw [hg] at h
      have ih := cChk_ok (n := n) (i := i) (f := f) (r := r) hf (acc := acc) (H := H) (k := k) (qs := qs)
      rw [hg] at ih
      cases hb : Nat.beq q n with
      | true =>
        rw [hb] at h
        obtain ⟨t, Hi, v, h1, h2⟩ := accK_eq h
        obtain ⟨h3, h4⟩ := hf h2
        obtain ⟨h5, h6⟩ := ih h4
        refine ⟨fun p hp => ?_, h6⟩
        rcases List.mem_cons.1 hp with rfl | hp
        · exact ⟨t, Hi, v, H, h1, .inl ⟨beq_of hb, rfl⟩, h3⟩
        · exact h5 p hp
      | false =>
        rw [hb] at h
        obtain ⟨t, Hi, v, h1, h2⟩ := accK_eq h
        obtain ⟨t2, Hq, v2, h3, h4⟩ := accK_eq h2
        obtain ⟨h5, h6⟩ := hf h4
        obtain ⟨h7, h8⟩ := ih h6
        refine ⟨fun p hp => ?_, h8⟩
        rcases List.mem_cons.1 hp with rfl | hp
        · refine ⟨t, Hi, v, Hq, h1, .inr ⟨?_, t2, v2, h3⟩, h5⟩
          rintro rfl
          rw [Nat.beq_refl] at hb; cases hb
        · exact h7 p hp

theorem cPlan_ok {ops : Array Oper} {acc : TrL D} {H : AH} {k : Ans} {r : Value × AH} : ∀ {pl : List (Nat × List Nat)}, (cPlan P T D m ops pl).run acc H k = some r →
    (∀ i qs, (i, qs) ∈ pl → ∃ o, ops[i]? = some o ∧ ∀ q ∈ qs, ∃ t Hi v Hq, acc[ops.size - 1 - i]? = some (t, Hi, v) ∧ heapOf ops.size acc H q Hq ∧ SameAt P T m ops o t v Hq) ∧ k = some r
  | [], h => ⟨fun _ _ hq => (by cases hq), h⟩
  | (i, qs) :: pl, h => by
    simp only [cPlan] at h
    cases hg : cPlan P T D m ops pl with
    | mk g =>
      rw [hg] at h
      have ih := cPlan_ok (ops := ops) (acc := acc) (H := H) (k := k) (r := r) (pl := pl)
      rw [hg] at ih
      cases ho : ops[i]? with
      | none => rw [ho] at h; cases h
      | some o =>
        rw [ho] at h
        dsimp only at h
        cases hf : cSame P T D m ops o with
        | mk f =>
          rw [hf] at h
          dsimp only at h
          cases hc : cChk ops.size i f qs with
          | mk c =>
            rw [hc] at h
            have hS : ∀ {t v H k}, f t v H k = some r → SameAt P T m ops o t v H ∧ k = some r := fun {t v H k} h => cSame_ok (D := D) (by rw [hf]; exact h)
            have h1 := cChk_ok (n := ops.size) (i := i) (f := f) (r := r) hS (acc := acc) (H := H) (k := g acc H k) (qs := qs)
            rw [hc] at h1
            obtain ⟨h2, h3⟩ := h1 h
            obtain ⟨h4, h5⟩ := ih h3
            refine ⟨fun j js hj => ?_, h5⟩
            rcases List.mem_cons.1 hj with hj | hj
            · cases hj
              exact ⟨o, ho, h2⟩
            · exact h4 j js hj

theorem louds_lt {ops : Array Oper} {q : Nat} (h : q ∈ louds ops) : q < ops.size := by
  unfold louds at h
  exact List.mem_range.1 (List.mem_filter.1 h).1

theorem steady_of {ops : Array Oper} {new : TrL D} {t' : NT D} {H' : AH} (hlen : new.length = ops.toList.length) (hT : TidyS ops ops.toList (new.map (stOf m)) ⟨toL m t', H'⟩)
    (h : ∀ i qs, (i, qs) ∈ planOf ops → ∃ o, ops[i]? = some o ∧ ∀ q ∈ qs, ∃ t Hi v Hq, new.reverse[ops.size - 1 - i]? = some (t, Hi, v) ∧ heapOf ops.size new.reverse H' q Hq ∧ SameAt P T m ops o t v Hq) :
    steadyW P T ops (new.map (stOf m)) ⟨toL m t', H'⟩ = true := by
  have hlen : new.length = ops.size := by simpa using hlen
  have rev : ∀ i, i < ops.size → new.reverse[ops.size - 1 - i]? = new[i]? := fun i hi => by
    rw [List.getElem?_reverse (by omega)]
    congr 1
    omega
  unfold steadyW
  simp only
  rw [List.all_eq_true]
  intro i hi
  have hi := List.mem_range.1 hi
  have ho : ops[i]? = some ops[i] := Array.getElem?_eq_getElem hi
  obtain ⟨s, v, h1, _, _, hok⟩ := hT.get (i := i) (o := ops[i]) (by rw [Array.getElem?_toList]; exact ho)
  rw [ho, h1]
  simp only
  split
  · rename_i hc
    simp only [Bool.and_eq_true] at hc
    rw [List.all_eq_true]
    intro p hp
    split
    · rename_i hcond
      have hmem : (i, ((louds ops) ++ [ops.size]).filter fun p => (louds ops).all fun e => if e < p then !((Region.before ops).getD e 0).testBit i else !((Region.before ops).getD i 0).testBit e) ∈ planOf ops := by
        unfold planOf
        simp only
        rw [List.mem_filterMap]
        refine ⟨i, List.mem_range.2 hi, ?_⟩
        rw [ho]
        simp only
        rw [if_pos (by simp only [Bool.and_eq_true]; exact hc.1)]
      obtain ⟨o, ho', hq⟩ := h i _ hmem
      rw [ho] at ho'
      cases ho'
      obtain ⟨t, Hi, v2, Hq, h2, h3, h4⟩ := hq p (List.mem_filter.2 ⟨hp, hcond⟩)
      rw [rev i hi] at h2
      have e1 : (new.map (stOf m))[i]? = some (stOf m (t, Hi, v2)) := by rw [List.getElem?_map, h2]; rfl
      rw [e1] at h1
      cases h1
      have eH : heapAhead (new.map (stOf m)) ⟨toL m t', H'⟩ p = Hq := by
        unfold heapAhead
        rcases h3 with ⟨rfl, rfl⟩ | ⟨hne, t3, v3, h5⟩
        · rw [List.getElem?_eq_none (by simp [hlen])]
        · have hlt : p < ops.size := by
            rcases List.mem_append.1 hp with hp | hp
            · exact louds_lt hp
            · exact absurd (by simpa using hp) hne
          rw [rev p hlt] at h5
          rw [List.getElem?_map, h5]
          rfl
      rw [eH]
      obtain ⟨v', H2, h6, h7, h8⟩ := h4 hok hc.2
      rw [h6]
      simp only [Bool.and_eq_true]
      exact ⟨h7, h8⟩
    · rfl
  · rfl

theorem steady_none {ops : Array Oper} {tr : List (St × Value)} {last : St} (hT : TidyS ops ops.toList tr last) (h : planOf ops = []) : steadyW P T ops tr last = true := by
  unfold steadyW
  simp only
  rw [List.all_eq_true]
  intro i hi
  have hi := List.mem_range.1 hi
  have ho : ops[i]? = some ops[i] := Array.getElem?_eq_getElem hi
  obtain ⟨s, v, h1, _, _, hok⟩ := hT.get (i := i) (o := ops[i]) (by rw [Array.getElem?_toList]; exact ho)
  rw [ho, h1]
  simp only
  split
  · rename_i hc
    simp only [Bool.and_eq_true] at hc
    exfalso
    unfold planOf at h
    simp only at h
    have := List.filterMap_eq_nil_iff.1 h i (List.mem_range.2 hi)
    rw [ho] at this
    simp only at this
    rw [if_pos (by simp only [Bool.and_eq_true]; exact hc.1)] at this
    cases this
  · rfl
end
end Go.Fv
