/- A region's run in the text's order, step by step; which operations stand ahead of which; operations that leave memory alone. -/
import Derived.Test.YtaoaddokgofifaaGreatEvJ
namespace Go.Ev
open Go.RowKit

/-! ### what stands ahead of an operation -/
def beforeStep (acc : Array Nat) (o : Oper) : Array Nat :=
  acc.push (o.after.foldl (fun s e => if Region.binds .any e then s ||| 2 ^ e.on ||| acc.getD e.on 0 else s) 0)

theorem before_eq (ops : Array Oper) : Region.before ops = ops.toList.foldl beforeStep #[] := by
  unfold Region.before
  rw [← Array.foldl_toList]
  rfl

theorem testBit_edges (acc : Array Nat) (j : Nat) : ∀ (l : List Edge) (s : Nat), (l.foldl (fun s e => if Region.binds .any e then s ||| 2 ^ e.on ||| acc.getD e.on 0 else s) s).testBit j = true →
    s.testBit j = true ∨ ∃ e ∈ l, Region.binds .any e = true ∧ (e.on = j ∨ (acc.getD e.on 0).testBit j = true)
  | [], s, h => .inl h
  | e :: l, s, h => by
    simp only [List.foldl_cons] at h
    rcases testBit_edges acc j l _ h with h1 | ⟨e', h2, h3⟩
    · split at h1
      · rename_i hb
        simp only [Nat.testBit_or, Bool.or_eq_true] at h1
        rcases h1 with (h1 | h1) | h1
        · exact .inl h1
        · refine .inr ⟨e, by simp, hb, .inl ?_⟩
          rw [Nat.testBit_two_pow] at h1
          simpa using h1
        · exact .inr ⟨e, by simp, hb, .inr h1⟩
      · exact .inl h1
    · exact .inr ⟨e', by simp [h2], h3⟩

theorem before_fold : ∀ (l : List Oper) (acc : Array Nat), (l.foldl beforeStep acc).size = acc.size + l.length ∧ (∀ i, i < acc.size → (l.foldl beforeStep acc)[i]? = acc[i]?) ∧
    (∀ i o, l[i]? = some o → ∀ j, ((l.foldl beforeStep acc).getD (acc.size + i) 0).testBit j = true →
      ∃ e ∈ o.after.toList, Region.binds .any e = true ∧ (e.on = j ∨ (e.on < acc.size + i ∧ ((l.foldl beforeStep acc).getD e.on 0).testBit j = true)))
  | [], acc => ⟨by simp, fun _ _ => rfl, fun i o h => by simp at h⟩
  | o :: l, acc => by
    obtain ⟨h1, h2, h3⟩ := before_fold l (beforeStep acc o)
    have hs : (beforeStep acc o).size = acc.size + 1 := by simp [beforeStep]
    refine ⟨by simp only [List.foldl_cons, List.length_cons]; omega, ?_, ?_⟩
    · intro i hi
      simp only [List.foldl_cons]
      rw [h2 i (by omega)]
      unfold beforeStep
      rw [Array.getElem?_push]
      simp [Nat.ne_of_lt hi]
    · intro i o' ho j hj
      simp only [List.foldl_cons] at hj ⊢
      cases i with
      | zero =>
        simp at ho; subst ho
        have e1 : (l.foldl beforeStep (beforeStep acc o)).getD (acc.size + 0) 0 = o.after.foldl (fun s e => if Region.binds .any e then s ||| 2 ^ e.on ||| acc.getD e.on 0 else s) 0 := by
          rw [Array.getD_eq_getD_getElem?, h2 _ (by omega)]
          simp [beforeStep]
        rw [e1, ← Array.foldl_toList] at hj
        rcases testBit_edges acc j _ 0 hj with h | ⟨e, he, hb, h⟩
        · simp at h
        · refine ⟨e, he, hb, ?_⟩
          rcases h with h | h
          · exact .inl h
          · right
            have hlt : e.on < acc.size := by
              rcases Nat.lt_or_ge e.on acc.size with h5 | h5
              · exact h5
              · rw [Array.getD_eq_getD_getElem?, Array.getElem?_eq_none h5] at h
                simp at h
            refine ⟨by omega, ?_⟩
            rw [Array.getD_eq_getD_getElem?, h2 _ (by omega)]
            unfold beforeStep
            rw [Array.getElem?_push, if_neg (by omega)]
            rw [Array.getD_eq_getD_getElem?] at h
            exact h
      | succ i =>
        have := h3 i o' (by simpa using ho) j (by rw [hs]; rwa [show acc.size + 1 + i = acc.size + (i + 1) by omega])
        rw [hs] at this
        obtain ⟨e, he, hb, h⟩ := this
        exact ⟨e, he, hb, by rcases h with h | h; exact .inl h; exact .inr ⟨by omega, h.2⟩⟩

/-- Operation j stands ahead of operation i. -/
def Ahead (ops : Array Oper) (j i : Nat) : Prop := ((Region.before ops).getD i 0).testBit j = true

theorem ahead_edge {ops : Array Oper} {i j : Nat} {o : Oper} (ho : ops[i]? = some o) (h : Ahead ops j i) : ∃ e ∈ o.after.toList, Region.binds .any e = true ∧ (e.on = j ∨ (e.on < i ∧ Ahead ops j e.on)) := by
  have := (before_fold ops.toList #[]).2.2 i o (by simpa using ho) j (by
    unfold Ahead at h
    rw [before_eq] at h
    simpa using h)
  obtain ⟨e, he, hb, h'⟩ := this
  refine ⟨e, he, hb, ?_⟩
  rcases h' with h' | h'
  · exact .inl h'
  · right
    refine ⟨by simpa using h'.1, ?_⟩
    unfold Ahead
    rw [before_eq]; exact h'.2

/-! ### the checks, as facts -/
structure DrawOK (ops : Array Oper) : Prop where
  edges : ∀ i o, ops[i]? = some o → ∀ e ∈ o.after.toList, Region.binds .any e = true → e.on < i
  slots : ∀ j o, ops[j]? = some o → ∀ t ∈ namesOf o ++ guardSlot ops o, ∀ i o', ops[i]? = some o' → o'.dst = some t → i = j ∨ (i < j ∧ Ahead ops i j) ∨ (j < i ∧ Ahead ops j i)
  loud : ∀ i o j o', ops[i]? = some o → ops[j]? = some o' → loudOp o.op = true → loudOp o'.op = true → i < j → Ahead ops i j

theorem mem_louds {ops : Array Oper} {i : Nat} : i ∈ louds ops ↔ ∃ o, ops[i]? = some o ∧ loudOp o.op = true := by
  unfold louds
  rw [List.mem_filter, List.mem_range]
  constructor
  · rintro ⟨h1, h2⟩
    cases ho : ops[i]? with
    | none => rw [ho] at h2; cases h2
    | some o => rw [ho] at h2; exact ⟨o, rfl, h2⟩
  · rintro ⟨o, ho, hl⟩
    exact ⟨(Array.getElem?_eq_some_iff.1 ho).1, by rw [ho]; exact hl⟩

theorem drawOK_spec {ops : Array Oper} (h : drawOK ops = true) : DrawOK ops := by
  unfold drawOK at h
  simp only [Bool.and_eq_true] at h
  obtain ⟨⟨h1, h2⟩, h3⟩ := h
  refine ⟨?_, ?_, ?_⟩
  · intro i o ho e he hb
    have := List.all_eq_true.1 h1 i (List.mem_range.2 (Array.getElem?_eq_some_iff.1 ho).1)
    rw [ho] at this
    have := List.all_eq_true.1 this e he
    simpa [hb] using this
  · intro j o ho t ht i o' ho' hd
    have a1 := List.all_eq_true.1 h2 j (List.mem_range.2 (Array.getElem?_eq_some_iff.1 ho).1)
    rw [ho] at a1
    have a2 := List.all_eq_true.1 a1 t ht
    have a3 := List.all_eq_true.1 a2 i (List.mem_range.2 (Array.getElem?_eq_some_iff.1 ho').1)
    rw [ho'] at a3
    simp only [hd, beq_self_eq_true, Bool.not_true, Bool.false_or, Bool.or_eq_true, beq_iff_eq] at a3
    rcases Nat.lt_trichotomy i j with hlt | heq | hgt
    · right; left
      refine ⟨hlt, ?_⟩
      rcases a3 with a3 | a3
      · omega
      · rw [Nat.max_eq_right (Nat.le_of_lt hlt), Nat.min_eq_left (Nat.le_of_lt hlt)] at a3; exact a3
    · exact .inl heq
    · right; right
      refine ⟨hgt, ?_⟩
      rcases a3 with a3 | a3
      · omega
      · rw [Nat.max_eq_left (Nat.le_of_lt hgt), Nat.min_eq_right (Nat.le_of_lt hgt)] at a3; exact a3
  · intro i o j o' ho ho' hl hl' hij
    have a1 := List.all_eq_true.1 h3 j (mem_louds.2 ⟨o', ho', hl'⟩)
    have a2 := List.all_eq_true.1 a1 i (mem_louds.2 ⟨o, ho, hl⟩)
    simp only [Bool.or_eq_true, decide_eq_true_eq] at a2
    rcases a2 with a2 | a2
    · omega
    · exact a2

theorem ahead_lt {ops : Array Oper} (h : DrawOK ops) : ∀ (i j : Nat), Ahead ops j i → j < i := by
  intro i
  induction i using Nat.strongRecOn with
  | _ i ih =>
    intro j hj
    cases ho : ops[i]? with
    | none =>
      unfold Ahead at hj
      have hsz := (before_fold ops.toList #[]).1
      rw [before_eq, Array.getD_eq_getD_getElem?, Array.getElem?_eq_none (by
        rw [hsz]
        have := Array.getElem?_eq_none_iff.1 ho
        simpa using this)] at hj
      simp at hj
    | some o =>
      obtain ⟨e, he, hb, h1⟩ := ahead_edge ho hj
      have hlt := h.edges i o ho e he hb
      rcases h1 with h1 | h1
      · omega
      · have := ih e.on h1.1 j h1.2; omega

/-! ### a run in the text's order -/
section
variable {P : Program} {T : TT} {X : Prims} {R : Runner}

/-- The state ahead of operation i (behind the last one: the last state). -/
def stAt (tr : List (St × Value)) (last : St) (i : Nat) : St :=
  match tr[i]? with
  | some (s, _) => s
  | none => last
def valAt (tr : List (St × Value)) (i : Nat) : Value :=
  match tr[i]? with
  | some (_, v) => v
  | none => undef

theorem heapAhead_eq (tr : List (St × Value)) (last : St) (i : Nat) : heapAhead tr last i = (stAt tr last i).heap := by
  unfold heapAhead stAt
  cases tr[i]? <;> rfl

theorem trace_spec {ops : Array Oper} : ∀ {l : List Oper} {s last : St} {tr : List (St × Value)}, traceW P T X R ops l s = some (tr, last) →
    tr.length = l.length ∧ stAt tr last 0 = s ∧ ∀ i o, l[i]? = some o → evOneW P T X R ops o (stAt tr last i) = some (valAt tr i, (stAt tr last (i + 1)).heap) ∧
      (stAt tr last (i + 1)).tmps = putL (stAt tr last i).tmps o.dst (valAt tr i)
  | [], s, last, tr, h => by
    simp only [traceW, Option.some.injEq, Prod.mk.injEq] at h
    obtain ⟨rfl, rfl⟩ := h
    exact ⟨rfl, rfl, fun i o h => by simp at h⟩
  | o :: l, s, last, tr, h => by
    simp only [traceW] at h
    split at h
    · rename_i v H hv
      split at h
      · rename_i tr' s' ht
        cases h
        obtain ⟨h1, h2, h3⟩ := trace_spec ht
        have sh : ∀ i, stAt ((s, v) :: tr') last (i + 1) = stAt tr' last i := fun i => by simp [stAt]
        have vh : ∀ i, valAt ((s, v) :: tr') (i + 1) = valAt tr' i := fun i => by simp [valAt]
        refine ⟨by simp [h1], rfl, ?_⟩
        intro i o' ho
        cases i with
        | zero =>
          simp at ho; subst ho
          rw [sh 0, h2]
          exact ⟨hv, rfl⟩
        | succ i =>
          rw [sh, sh, vh]
          exact h3 i o' (by simpa using ho)
      · cases h
    · cases h

/-! ### operations that leave memory alone -/
theorem still_same {env : Operand → Value} {o : Op} {H H' : AH} {v : Value} (hs : stillOp o = true) (h : evOp P T env o H = some (v, H')) : H' = H := by
  cases o <;> simp only [stillOp, Bool.false_eq_true] at hs
  case call c =>
    obtain ⟨callee, args, ats⟩ := c
    cases callee with
    | builtin b =>
      cases b <;> simp only [Bool.false_eq_true] at hs <;> (simp only [evOp, builtinV] at h; obtain ⟨a, _, h2⟩ := opt_map_some h; cases h2; rfl)
    | _ => simp [] at hs
  all_goals try simp only [evOp] at h
  case move => cases h; rfl
  case assign => cases h; rfl
  case pick => split at h <;> cases h; rfl
  case nilCheck => split at h <;> cases h; rfl
  case makeFunc fn first cap =>
    cases fn <;> simp only [] at h <;> try cases h
    split at h <;> cases h; rfl
  case extract =>
    split at h
    · obtain ⟨a, _, h2⟩ := opt_map_some h; cases h2; rfl
    · cases h
  all_goals (obtain ⟨a, _, h2⟩ := opt_map_some h; cases h2; rfl)

theorem pure_any {env : Operand → Value} {o : Op} {H H' : AH} {v : Value} (hs : pureOp o = true) (h : evOp P T env o H = some (v, H')) (H2 : AH) : evOp P T env o H2 = some (v, H2) := by
  cases o <;> simp only [pureOp, stillOp, Bool.false_eq_true] at hs
  case call c =>
    obtain ⟨callee, args, ats⟩ := c
    cases callee with
    | builtin b =>
      cases b <;> simp only [Bool.false_eq_true] at hs <;> (simp only [evOp, builtinV] at h ⊢; obtain ⟨a, h1, h2⟩ := opt_map_some h; cases h2; rw [h1]; rfl)
    | _ => simp [] at hs
  all_goals simp only [evOp] at h ⊢
  case move => cases h; rfl
  case assign => cases h; rfl
  case pick => split at h <;> cases h; rfl
  case nilCheck => split at h <;> cases h; rfl
  case makeFunc fn first cap =>
    cases fn <;> simp only [] at h ⊢ <;> try cases h
    split at h
    · rename_i hh; cases h; rw [if_pos hh]
    · cases h
  case extract =>
    split at h
    · rename_i hh
      obtain ⟨a, h1, h2⟩ := opt_map_some h; cases h2; rw [h1]; rfl
    · cases h
  all_goals (obtain ⟨a, h1, h2⟩ := opt_map_some h; cases h2; rw [h1]; rfl)

/-- What looks into memory sees the same where all that it saw lies on. -/
theorem still_mono {env : Operand → Value} {o : Op} {H H' H2 : AH} {v : Value} (hs : stillOp o = true) (h : evOp P T env o H = some (v, H')) (hsub : ∀ k x, H.get k = some x → H2.get k = some x) :
    evOp P T env o H2 = some (v, H2) := by
  by_cases hp : pureOp o = true
  · exact pure_any hp h H2
  cases o <;> simp only [stillOp, Bool.false_eq_true] at hs <;> try (exact absurd rfl hp)
  case call c =>
    obtain ⟨callee, args, ats⟩ := c
    cases callee with
    | builtin b =>
      cases b <;> simp only [Bool.false_eq_true] at hs <;> try (exact absurd rfl hp)
      simp only [evOp, builtinV] at h ⊢
      obtain ⟨a, h1, h2⟩ := opt_map_some h
      cases h2
      have : lenB T ats (args.toList.map env) H2 = some v := by
        unfold lenB at h1 ⊢
        split at h1
        · split at h1
          · exact h1
          · exact h1
          · exact h1
          · exact h1
          · split at h1
            · rename_i es cl hg; rw [hsub _ _ hg]; exact h1
            · cases h1
          · split at h1
            · rename_i cap buf s rc hg; rw [hsub _ _ hg]; exact h1
            · cases h1
          · cases h1
        · cases h1
      rw [this]; rfl
    | _ => simp [] at hs
  case load t a =>
    simp only [evOp] at h ⊢
    obtain ⟨x, h1, h2⟩ := opt_map_some h
    cases h2
    have : loadV T H2 t (env a) = some v := by
      unfold loadV at h1 ⊢
      split at h1
      · split at h1
        · rename_i c e hg; rw [hsub _ _ hg]; exact h1
        · cases h1
      · cases h1
    rw [this]; rfl
  case lookup t m k ok =>
    simp only [evOp] at h ⊢
    obtain ⟨x, h1, h2⟩ := opt_map_some h
    cases h2
    have : lookupV P T t (env m) (env k) ok H2 = some v := by
      unfold lookupV at h1 ⊢
      split at h1
      · split at h1
        · rename_i es cl hg; rw [hsub _ _ hg]; exact h1
        · cases h1
      · cases h1
    rw [this]; rfl

end
end Go.Ev
