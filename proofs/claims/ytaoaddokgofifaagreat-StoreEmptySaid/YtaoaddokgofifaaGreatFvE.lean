/- More fuel changes no answer of the evaluator. -/
import Derived.Test.YtaoaddokgofifaaGreatFvD
namespace Go.Fv
open Go.Ev

def RLe (R R' : Runner) : Prop := ∀ c s r, R c s = some r → R' c s = some r

section
variable {P : Program} {T : TT} {X : Prims} {R R' : Runner}

theorem evCallW_le (h : RLe R R') {f : FuncId} {args : List Value} {H : AH} {r : Value × AH} (k : evCallW T X R f args H = some r) : evCallW T X R' f args H = some r := by
  unfold evCallW at k ⊢
  split at k
  · exact k
  · split at k
    · split at k
      · rename_i c _
        cases hr : R c ⟨args ++ List.replicate _ undef, H⟩ with
        | none => rw [hr] at k; cases k
        | some p => rw [h _ _ _ hr]; rw [hr] at k; exact k
      · exact k
    · exact k

theorem evYieldW_le (h : RLe R R') {l : Nat} {args : List Value} {H : AH} {r : Value × AH} (k : evYieldW R l args H = some r) : evYieldW R' l args H = some r := by
  unfold evYieldW at k ⊢
  split at k
  · rename_i st pe tmps ps asg body hg
    split at k
    · rename_i hlen
      rw [if_pos hlen]
      cases hr : R asg ⟨setArgs tmps (ps.toList.zip args), H⟩ with
      | none => rw [hr] at k; cases k
      | some p =>
        rw [h _ _ _ hr]
        rw [hr] at k
        obtain ⟨e, s⟩ := p
        cases e with
        | exit id => exact k
        | ret => exact k
        | normal =>
          simp only at k ⊢
          split at k
          · rename_i pend t p a b hg2
            cases hr2 : R body ⟨s.tmps, s.heap.set l (.loop .busy pend t p a b)⟩ with
            | none => rw [hr2] at k; cases k
            | some q => rw [h _ _ _ hr2]; rw [hr2] at k; exact k
          · exact k
    · cases k
  · exact k

theorem evOperW_le (h : RLe R R') {ρ : Operand → Value} {o : Op} {H : AH} {r : Value × AH} (k : evOperW P T X R ρ o H = some r) : evOperW P T X R' ρ o H = some r := by
  unfold evOperW at k ⊢
  split at k
  · split at k
    · split at k
      · rename_i hf
        rw [if_pos hf]
        exact evCallW_le h k
      · cases k
    · split at k
      · rename_i hf
        rw [if_pos hf]
        exact evYieldW_le h k
      · cases k
    · cases k
  · exact k

theorem evOneW_le (h : RLe R R') {ops : Array Oper} {o : Oper} {s : St} {r : Value × AH} (k : evOneW P T X R ops o s = some r) : evOneW P T X R' ops o s = some r := by
  unfold evOneW at k ⊢
  split at k
  · rename_i hw
    rw [if_pos hw]
    split at k
    · rename_i ho
      rw [if_pos ho]
      exact evOperW_le h k
    · cases k
  · rename_i hw
    rw [if_neg hw]
    exact k

theorem evOpsW_le (h : RLe R R') {ops : Array Oper} : ∀ {l : List Oper} {s s' : St}, evOpsW P T X R ops l s = some s' → evOpsW P T X R' ops l s = some s'
  | [], _, _, k => k
  | o :: l, s, s', k => by
    unfold evOpsW at k ⊢
    cases ho : evOneW P T X R ops o s with
    | none => rw [ho] at k; cases k
    | some p =>
      rw [evOneW_le h ho]
      rw [ho] at k
      exact evOpsW_le h k

theorem traceW_le (h : RLe R R') {ops : Array Oper} : ∀ {l : List Oper} {s : St} {r : List (St × Value) × St}, traceW P T X R ops l s = some r → traceW P T X R' ops l s = some r
  | [], _, _, k => k
  | o :: l, s, r, k => by
    unfold traceW at k ⊢
    cases ho : evOneW P T X R ops o s with
    | none => rw [ho] at k; cases k
    | some p =>
      rw [evOneW_le h ho]
      rw [ho] at k
      obtain ⟨v, H⟩ := p
      simp only at k ⊢
      cases ht : traceW P T X R ops l ⟨putL s.tmps o.dst v, H⟩ with
      | none => rw [ht] at k; cases k
      | some q => rw [traceW_le h ht]; rw [ht] at k; exact k

theorem evRegionW_le (h : RLe R R') {ops : Array Oper} {d : Bool} {s s' : St} (k : evRegionW P T X R ops d s = some s') : evRegionW P T X R' ops d s = some s' := by
  unfold evRegionW at k ⊢
  cases d with
  | false => exact evOpsW_le h k
  | true =>
    simp only [if_true] at k ⊢
    cases ht : traceW P T X R ops ops.toList s with
    | none => rw [ht] at k; cases k
    | some q => rw [traceW_le h ht]; rw [ht] at k; exact k

/-- One layer of the evaluator. -/
def stepCode (P : Program) (T : TT) (X : Prims) (R : Runner) (c : Code) (s : St) : Option (Ex × St) :=
  match c with
    | .skip => some (.normal, s)
    | .ret => some (.ret, s)
    | .exit id => some (.exit id, s)
    | .seq a b =>
      match R a s with
      | some (.normal, s') => R b s'
      | r => r
    | .cond x a b =>
      match envL s.tmps x with
      | .bool true => R a s
      | .bool false => R b s
      | _ => none
    | .block id a =>
      match R a s with
      | some (.exit id', s') => if id' = id then some (.normal, s') else some (.exit id', s')
      | r => r
    | .loop a =>
      match R a s with
      | some (.normal, s') => R (.loop a) s'
      | r => r
    | .region _ ops draw => (evRegionW P T X R ops draw s).map fun s' => (.normal, s')
    | .rangeFunc f ps asg body =>
      match okOperand f, envL s.tmps f with
      | true, .func (.func g) first cap =>
        if first.isEmpty then
          match evCallW T X R g (.func (.yield s.heap.next) #[] #[] :: cap.toList) (s.heap.alloc (.loop .ready none s.tmps ps asg body)) with
          | some (_, H) =>
            match H.get s.heap.next with
            | some (.loop st pend t p a b) =>
              if st = .busy then none else
              match pend with
              | none => some (.normal, ⟨s.tmps, H.set s.heap.next (.loop .exhausted pend t p a b)⟩)
              | some .ret => some (.ret, ⟨s.tmps, H.set s.heap.next (.loop .exhausted pend t p a b)⟩)
              | some (.exit id) => some (.exit id, ⟨s.tmps, H.set s.heap.next (.loop .exhausted pend t p a b)⟩)
              | _ => none
            | _ => none
          | none => none
        else none
      | _, _ => none
    | _ => none
theorem evCode_step (n : Nat) (c : Code) (s : St) : evCode P T X (n + 1) c s = stepCode P T X (evCode P T X n) c s := by
  cases c <;> rfl

theorem stepCode_le (h : RLe R R') : RLe (stepCode P T X R) (stepCode P T X R') := by
  intro c s r k
  cases c with
  | seq a b =>
    simp only [stepCode] at k ⊢
    cases hr : R a s with
    | none => rw [hr] at k; cases k
    | some p =>
      rw [h _ _ _ hr]; rw [hr] at k
      obtain ⟨e, s'⟩ := p
      cases e with
      | normal => exact h _ _ _ k
      | exit id => exact k
      | ret => exact k
  | cond x a b =>
    simp only [stepCode] at k ⊢
    split at k
    · exact h _ _ _ k
    · exact h _ _ _ k
    · cases k
  | block id a =>
    simp only [stepCode] at k ⊢
    cases hr : R a s with
    | none => rw [hr] at k; cases k
    | some p => rw [h _ _ _ hr]; rw [hr] at k; exact k
  | loop a =>
    simp only [stepCode] at k ⊢
    cases hr : R a s with
    | none => rw [hr] at k; cases k
    | some p =>
      rw [h _ _ _ hr]; rw [hr] at k
      obtain ⟨e, s'⟩ := p
      cases e with
      | normal => exact h _ _ _ k
      | exit id => exact k
      | ret => exact k
  | region id ops d =>
    simp only [stepCode] at k ⊢
    cases hr : evRegionW P T X R ops d s with
    | none => rw [hr] at k; cases k
    | some p => rw [evRegionW_le h hr]; rw [hr] at k; exact k
  | rangeFunc f ps asg body =>
    simp only [stepCode] at k ⊢
    split at k
    · rename_i g first cap h1 h2
      split at k
      · rename_i hf
        rw [if_pos hf]
        cases hr : evCallW T X R g (.func (.yield s.heap.next) #[] #[] :: cap.toList) (s.heap.alloc (.loop .ready none s.tmps ps asg body)) with
        | none => rw [hr] at k; cases k
        | some p => rw [evCallW_le h hr]; rw [hr] at k; exact k
      · cases k
    · cases k
  | _ => exact k

theorem evCode_succ : ∀ n : Nat, RLe (evCode P T X n) (evCode P T X (n + 1))
  | 0 => fun _ _ _ k => by simp [evCode] at k
  | n + 1 => fun c s r k => by
    rw [evCode_step] at k ⊢
    exact stepCode_le (evCode_succ n) c s r k
theorem evCode_le {n m : Nat} (h : n ≤ m) : RLe (evCode P T X n) (evCode P T X m) := by
  induction h with
  | refl => exact fun _ _ _ k => k
  | step _ ih => exact fun c s r k => evCode_succ _ c s r (ih c s r k)

theorem evTg_le {n m : Nat} (h : n ≤ m) {tg : Tg} {args : List Value} {H : AH} {r : Value × AH} (k : evTg P T X n tg args H = some r) : evTg P T X m tg args H = some r := by
  cases tg with
  | fn f => exact evCallW_le (evCode_le h) k
  | yd l => exact evYieldW_le (evCode_le h) k
end
end Go.Fv
