/- A logic for the evaluator: what code comes to, from what holds ahead of it. -/
import Derived.Test.YtaoaddokgofifaaGreatFvE
namespace Go.Wp
open Go Go.Ev Go.Fv

section
variable (P : Program) (T : TT) (X : Prims)

/-- Code comes to an end, and so. -/
def W (c : Code) (l : List Value) (H : AH) (Q : Ex → List Value → AH → Prop) : Prop :=
  ∃ n e s, evCode P T X n c ⟨l, H⟩ = some (e, s) ∧ Q e s.tmps s.heap
/-- Operations come to an end, and so. -/
def Os (ops : Array Oper) (r : List Oper) (l : List Value) (H : AH) (Q : List Value → AH → Prop) : Prop :=
  ∃ n s, evOpsW P T X (evCode P T X n) ops r ⟨l, H⟩ = some s ∧ Q s.tmps s.heap
def C (f : FuncId) (args : List Value) (H : AH) (Q : Value → AH → Prop) : Prop :=
  ∃ n v H', evCallW T X (evCode P T X n) f args H = some (v, H') ∧ Q v H'
def Y (k : Nat) (args : List Value) (H : AH) (Q : Value → AH → Prop) : Prop :=
  ∃ n v H', evYieldW (evCode P T X n) k args H = some (v, H') ∧ Q v H'
/-- Operations of a drawn region, none of which turns memory. -/
def Ds (ops : Array Oper) (r : List Oper) (l : List Value) (H : AH) (Q : List Value → Prop) : Prop :=
  ∃ n tr l', traceW P T X (evCode P T X n) ops r ⟨l, H⟩ = some (tr, ⟨l', H⟩) ∧ tr.length = r.length ∧
    (∀ (i : Nat) (s : St) (v : Value), tr[i]? = some (s, v) → ∃ o, r[i]? = some o ∧ s.heap = H ∧ stillOp o.op = true ∧
      (pureOp o.op = false → wantedL ops s.tmps o = true → evOp P T (envL s.tmps) o.op H = some (v, H) ∧ eqV v v = true ∧ (o.op.operands.toList.all fun x => belowV H.next (envL s.tmps x)) = true)) ∧ Q l'
end

section
variable {P : Program} {T : TT} {X : Prims}

theorem W.mono {c : Code} {l : List Value} {H : AH} {Q Q' : Ex → List Value → AH → Prop} (h : W P T X c l H Q) (k : ∀ e l' H', Q e l' H' → Q' e l' H') : W P T X c l H Q' := by
  obtain ⟨n, e, s, h1, h2⟩ := h
  exact ⟨n, e, s, h1, k _ _ _ h2⟩
theorem C.mono {f : FuncId} {a : List Value} {H : AH} {Q Q' : Value → AH → Prop} (h : C P T X f a H Q) (k : ∀ v H', Q v H' → Q' v H') : C P T X f a H Q' := by
  obtain ⟨n, e, s, h1, h2⟩ := h
  exact ⟨n, e, s, h1, k _ _ h2⟩
theorem Y.mono {f : Nat} {a : List Value} {H : AH} {Q Q' : Value → AH → Prop} (h : Y P T X f a H Q) (k : ∀ v H', Q v H' → Q' v H') : Y P T X f a H Q' := by
  obtain ⟨n, e, s, h1, h2⟩ := h
  exact ⟨n, e, s, h1, k _ _ h2⟩

theorem W.skip {l : List Value} {H : AH} {Q : Ex → List Value → AH → Prop} (h : Q .normal l H) : W P T X .skip l H Q := ⟨1, _, _, rfl, h⟩
theorem W.ret {l : List Value} {H : AH} {Q : Ex → List Value → AH → Prop} (h : Q .ret l H) : W P T X .ret l H Q := ⟨1, _, _, rfl, h⟩
theorem W.exit {i : Nat} {l : List Value} {H : AH} {Q : Ex → List Value → AH → Prop} (h : Q (.exit i) l H) : W P T X (.exit i) l H Q := ⟨1, _, _, rfl, h⟩

/-- What comes behind, where the code runs on. -/
def thenN (Q : Ex → List Value → AH → Prop) (K : List Value → AH → Prop) : Ex → List Value → AH → Prop
  | .normal, l, H => K l H
  | e, l, H => Q e l H

theorem W.seq {a b : Code} {l : List Value} {H : AH} {Q : Ex → List Value → AH → Prop} (h : W P T X a l H (thenN Q fun l' H' => W P T X b l' H' Q)) : W P T X (.seq a b) l H Q := by
  obtain ⟨n, e, s, h1, h2⟩ := h
  cases e with
  | normal =>
    obtain ⟨m, e', s', h3, h4⟩ := h2
    refine ⟨max n m + 1, e', s', ?_, h4⟩
    have g1 := evCode_le (P := P) (T := T) (X := X) (Nat.le_max_left n m) _ _ _ h1
    have g2 := evCode_le (P := P) (T := T) (X := X) (Nat.le_max_right n m) _ _ _ h3
    show (match evCode P T X (max n m) a ⟨l, H⟩ with | some (.normal, s') => evCode P T X (max n m) b s' | r => r) = _
    rw [g1]; exact g2
  | exit id =>
    refine ⟨n + 1, _, s, ?_, h2⟩
    show (match evCode P T X n a ⟨l, H⟩ with | some (.normal, s') => evCode P T X n b s' | r => r) = _
    rw [h1]
  | ret =>
    refine ⟨n + 1, _, s, ?_, h2⟩
    show (match evCode P T X n a ⟨l, H⟩ with | some (.normal, s') => evCode P T X n b s' | r => r) = _
    rw [h1]

theorem W.cond {x : Operand} {a b : Code} {l : List Value} {H : AH} {Q : Ex → List Value → AH → Prop} {t : Bool} (hx : envL l x = .bool t) (ha : t = true → W P T X a l H Q) (hb : t = false → W P T X b l H Q) : W P T X (.cond x a b) l H Q := by
  cases t with
  | true =>
    obtain ⟨n, e, s, h1, h2⟩ := ha rfl
    refine ⟨n + 1, e, s, ?_, h2⟩
    show (match envL l x with | .bool true => evCode P T X n a ⟨l, H⟩ | .bool false => evCode P T X n b ⟨l, H⟩ | _ => none) = _
    rw [hx]; exact h1
  | false =>
    obtain ⟨n, e, s, h1, h2⟩ := hb rfl
    refine ⟨n + 1, e, s, ?_, h2⟩
    show (match envL l x with | .bool true => evCode P T X n a ⟨l, H⟩ | .bool false => evCode P T X n b ⟨l, H⟩ | _ => none) = _
    rw [hx]; exact h1

def blockQ (id : Nat) (Q : Ex → List Value → AH → Prop) : Ex → List Value → AH → Prop
  | .exit i, l, H => if i = id then Q .normal l H else Q (.exit i) l H
  | e, l, H => Q e l H
theorem W.block {id : Nat} {a : Code} {l : List Value} {H : AH} {Q : Ex → List Value → AH → Prop} (h : W P T X a l H (blockQ id Q)) : W P T X (.block id a) l H Q := by
  obtain ⟨n, e, s, h1, h2⟩ := h
  have key : evCode P T X (n + 1) (.block id a) ⟨l, H⟩ = (match evCode P T X n a ⟨l, H⟩ with | some (.exit id', s') => if id' = id then some (.normal, s') else some (.exit id', s') | r => r) := rfl
  cases e with
  | normal => exact ⟨n + 1, _, s, by rw [key, h1], h2⟩
  | ret => exact ⟨n + 1, _, s, by rw [key, h1], h2⟩
  | exit i =>
    by_cases hi : i = id
    · refine ⟨n + 1, .normal, s, by rw [key, h1]; exact if_pos hi, ?_⟩
      have : (if i = id then Q .normal s.tmps s.heap else Q (.exit i) s.tmps s.heap) := h2
      rwa [if_pos hi] at this
    · refine ⟨n + 1, .exit i, s, by rw [key, h1]; exact if_neg hi, ?_⟩
      have : (if i = id then Q .normal s.tmps s.heap else Q (.exit i) s.tmps s.heap) := h2
      rwa [if_neg hi] at this

section
variable {Q : Ex → List Value → AH → Prop} {K : List Value → AH → Prop} {l : List Value} {H : AH} {i id : Nat}
theorem on_n (h : K l H) : thenN Q K .normal l H := h
theorem on_x (h : Q (.exit i) l H) : thenN Q K (.exit i) l H := h
theorem on_r (h : Q .ret l H) : thenN Q K .ret l H := h
theorem blk_n (h : Q .normal l H) : blockQ id Q .normal l H := h
theorem blk_r (h : Q .ret l H) : blockQ id Q .ret l H := h
theorem blk_x (h : Q .normal l H) : blockQ id Q (.exit id) l H := by
  show if id = id then _ else _
  rw [if_pos rfl]; exact h
theorem blk_o (hi : i ≠ id) (h : Q (.exit i) l H) : blockQ id Q (.exit i) l H := by
  show if i = id then _ else _
  rw [if_neg hi]; exact h
end

theorem W.loop {a : Code} {l : List Value} {H : AH} {Q : Ex → List Value → AH → Prop} (h : W P T X a l H (thenN Q fun l' H' => W P T X (.loop a) l' H' Q)) : W P T X (.loop a) l H Q := by
  obtain ⟨n, e, s, h1, h2⟩ := h
  have key : ∀ n, evCode P T X (n + 1) (.loop a) ⟨l, H⟩ = (match evCode P T X n a ⟨l, H⟩ with | some (.normal, s') => evCode P T X n (.loop a) s' | r => r) := fun _ => rfl
  cases e with
  | normal =>
    obtain ⟨m, e', s', h3, h4⟩ := h2
    refine ⟨max n m + 1, e', s', ?_, h4⟩
    have g1 := evCode_le (P := P) (T := T) (X := X) (Nat.le_max_left n m) _ _ _ h1
    have g2 := evCode_le (P := P) (T := T) (X := X) (Nat.le_max_right n m) _ _ _ h3
    rw [key, g1]; exact g2
  | exit id => exact ⟨n + 1, _, s, by rw [key, h1], h2⟩
  | ret => exact ⟨n + 1, _, s, by rw [key, h1], h2⟩

theorem W.region {pos : Nat} {ops : Array Oper} {l : List Value} {H : AH} {Q : Ex → List Value → AH → Prop} (h : Os P T X ops ops.toList l H (Q .normal)) : W P T X (.region pos ops false) l H Q := by
  obtain ⟨n, s, h1, h2⟩ := h
  refine ⟨n + 1, .normal, s, ?_, h2⟩
  show (evRegionW P T X (evCode P T X n) ops false ⟨l, H⟩).map _ = _
  have : evRegionW P T X (evCode P T X n) ops false ⟨l, H⟩ = evOpsW P T X (evCode P T X n) ops ops.toList ⟨l, H⟩ := rfl
  rw [this, h1]; rfl

/-! ### operations -/
theorem Os.nil {ops : Array Oper} {l : List Value} {H : AH} {Q : List Value → AH → Prop} (h : Q l H) : Os P T X ops [] l H Q := ⟨0, ⟨l, H⟩, rfl, h⟩

theorem Os.one {ops : Array Oper} {o : Oper} {r : List Oper} {l : List Value} {H : AH} {Q : List Value → AH → Prop} {n : Nat} {v : Value} {H' : AH} (h1 : evOneW P T X (evCode P T X n) ops o ⟨l, H⟩ = some (v, H'))
    (hq : Os P T X ops r (putL l o.dst v) H' Q) : Os P T X ops (o :: r) l H Q := by
  obtain ⟨m, s, h2, h3⟩ := hq
  refine ⟨max n m, s, ?_, h3⟩
  have g1 := evOneW_le (evCode_le (P := P) (T := T) (X := X) (Nat.le_max_left n m)) h1
  have g2 := evOpsW_le (evCode_le (P := P) (T := T) (X := X) (Nat.le_max_right n m)) h2
  show (match evOneW P T X (evCode P T X (max n m)) ops o ⟨l, H⟩ with | some (v, H') => evOpsW P T X (evCode P T X (max n m)) ops r ⟨putL l o.dst v, H'⟩ | none => none) = _
  rw [g1]; exact g2

/-- What is not wanted is passed by. -/
theorem Os.pass {ops : Array Oper} {o : Oper} {r : List Oper} {l : List Value} {H : AH} {Q : List Value → AH → Prop} (hw : wantedL ops l o = false) (hq : Os P T X ops r (putL l o.dst undef) H Q) : Os P T X ops (o :: r) l H Q :=
  Os.one (n := 0) (by simp only [evOneW, hw]; rfl) hq

theorem Os.op {ops : Array Oper} {o : Oper} {r : List Oper} {l : List Value} {H : AH} {Q : List Value → AH → Prop} {v : Value} {H' : AH} (hw : wantedL ops l o = true) (hk : o.op.operands.toList.all okOperand = true) (hc : isCallV o.op = false)
    (he : evOp P T (envL l) o.op H = some (v, H')) (hq : Os P T X ops r (putL l o.dst v) H' Q) : Os P T X ops (o :: r) l H Q :=
  Os.one (n := 0) (by
    simp only [evOneW, hw, hk, if_true]
    rw [plain_oper hc]; exact he) hq

section
variable {l : List Value} {x y z : Operand} {u v w : Value}
theorem args0 : (#[] : Array Operand).toList.map (envL l) = [] := rfl
theorem args1 (h : envL l x = v) : (#[x] : Array Operand).toList.map (envL l) = [v] := by simp [h]
theorem args2 (h : envL l x = u) (h' : envL l y = v) : (#[x, y] : Array Operand).toList.map (envL l) = [u, v] := by simp [h, h']
theorem args3 (h : envL l x = u) (h' : envL l y = v) (h2 : envL l z = w) : (#[x, y, z] : Array Operand).toList.map (envL l) = [u, v, w] := by simp [h, h', h2]
end
/-- The operation of a call of a value. -/
def callOp (f : Operand) (args : Array Operand) (ts : Array TypeId) : Op := .call { callee := .value f, args := args, argTypes := ts }

theorem Os.call {ops : Array Oper} {o : Oper} {f : Operand} {args : Array Operand} {ts : Array TypeId} {r : List Oper} {l : List Value} {H : AH} {Q : List Value → AH → Prop} (ho : o.op = callOp f args ts)
    {g : FuncId} {cap : Array Value} (hw : wantedL ops l o = true) (hk : o.op.operands.toList.all okOperand = true) (hf : envL l f = .func (.func g) #[] cap) {as : List Value} (ha : args.toList.map (envL l) = as)
    (h : C P T X g (as ++ cap.toList) H fun v H' => Os P T X ops r (putL l o.dst v) H' Q) : Os P T X ops (o :: r) l H Q := by
  obtain ⟨n, v, H', h1, h2⟩ := h
  subst ha
  refine Os.one (n := n) ?_ h2
  simp only [evOneW, hw, hk, if_true]
  simp only [ho, callOp, evOperW, hf]
  exact h1

theorem Os.yield {ops : Array Oper} {o : Oper} {f : Operand} {args : Array Operand} {ts : Array TypeId} {r : List Oper} {l : List Value} {H : AH} {Q : List Value → AH → Prop} (ho : o.op = callOp f args ts)
    {k : Nat} (hw : wantedL ops l o = true) (hk : o.op.operands.toList.all okOperand = true) (hf : envL l f = .func (.yield k) #[] #[]) {as : List Value} (ha : args.toList.map (envL l) = as)
    (h : Y P T X k as H fun v H' => Os P T X ops r (putL l o.dst v) H' Q) : Os P T X ops (o :: r) l H Q := by
  obtain ⟨n, v, H', h1, h2⟩ := h
  subst ha
  refine Os.one (n := n) ?_ h2
  simp only [evOneW, hw, hk, if_true]
  simp only [ho, callOp, evOperW, hf]
  exact h1

/-! ### calls -/
theorem C.prim {f : FuncId} {p : List Value → AH → Option (Value × AH)} {args : List Value} {H : AH} {Q : Value → AH → Prop} {v : Value} {H' : AH} (hp : X f = some p) (h : p args H = some (v, H')) (hq : Q v H') : C P T X f args H Q :=
  ⟨0, v, H', by simp only [evCallW, hp]; exact h, hq⟩

theorem C.fn {f : FuncId} {fn : Func} {c : Code} {args : List Value} {H : AH} {Q : Value → AH → Prop} (hp : X f = none) (hf : T.fn f = some fn) (hb : fn.body = some c)
    (h : W P T X c (args ++ List.replicate (fn.ntmps - args.length) undef) H fun e l' H' => (∀ i, e ≠ .exit i) ∧ ∃ vs, resultsL T H' l' fn.results.toList = some vs ∧ Q (resultOf vs) H') : C P T X f args H Q := by
  obtain ⟨n, e, s, h1, h2, vs, h3, h4⟩ := h
  refine ⟨n, resultOf vs, s.heap, ?_, h4⟩
  simp only [evCallW, hp, hf, hb, h1]
  cases e with
  | normal => simp only [h3]; rfl
  | ret => simp only [h3]; rfl
  | exit i => exact absurd rfl (h2 i)

theorem Y.body {k : Nat} {args : List Value} {H : AH} {Q : Value → AH → Prop} {st : LoopState} {pd : Option Code} {tmps : List Value} {ps : Array Tmp} {asg body : Code} (hg : H.get k = some (.loop st pd tmps ps asg body)) (hl : args.length = ps.size)
    (h : W P T X asg (setArgs tmps (ps.toList.zip args)) H fun e l1 H1 => e = .normal ∧ ∃ pend t p a b, H1.get k = some (.loop .ready pend t p a b) ∧
      W P T X body l1 (H1.set k (.loop .busy pend t p a b)) fun e _ H' => ∃ st pend t p a b, H'.get k = some (.loop st pend t p a b) ∧
        match e with
        | .normal => Q (.bool true) (H'.set k (.loop .ready none t p a b))
        | .ret => Q (.bool false) (H'.set k (.loop .done (some .ret) t p a b))
        | .exit id => Q (.bool false) (H'.set k (.loop .done (some (.exit id)) t p a b))) : Y P T X k args H Q := by
  obtain ⟨n, e, s, h1, rfl, pend, t, p, a, b, h2, m, e', s', h3, st', pend', t', p', a', b', h4, h5⟩ := h
  have g1 := evCode_le (P := P) (T := T) (X := X) (Nat.le_max_left n m) _ _ _ h1
  have g2 := evCode_le (P := P) (T := T) (X := X) (Nat.le_max_right n m) _ _ _ h3
  cases e' with
  | normal => exact ⟨max n m, _, _, by simp only [evYieldW, hg, hl, if_true, g1, h2, g2, h4], h5⟩
  | ret => exact ⟨max n m, _, _, by simp only [evYieldW, hg, hl, if_true, g1, h2, g2, h4], h5⟩
  | exit i => exact ⟨max n m, _, _, by simp only [evYieldW, hg, hl, if_true, g1, h2, g2, h4], h5⟩

theorem W.range {f : Operand} {ps : Array Tmp} {asg body : Code} {l : List Value} {H : AH} {Q : Ex → List Value → AH → Prop} {g : FuncId} {cap : Array Value} (hk : okOperand f = true) (hf : envL l f = .func (.func g) #[] cap)
    (h : C P T X g (.func (.yield H.next) #[] #[] :: cap.toList) (H.alloc (.loop .ready none l ps asg body)) fun _ H' => ∃ st pend t p a b, H'.get H.next = some (.loop st pend t p a b) ∧ st ≠ .busy ∧
      match pend with
      | none => Q .normal l (H'.set H.next (.loop .exhausted pend t p a b))
      | some .ret => Q .ret l (H'.set H.next (.loop .exhausted pend t p a b))
      | some (.exit id) => Q (.exit id) l (H'.set H.next (.loop .exhausted pend t p a b))
      | _ => False) : W P T X (.rangeFunc f ps asg body) l H Q := by
  obtain ⟨n, v, H', h1, st, pend, t, p, a, b, h2, h3, h4⟩ := h
  have key : evCode P T X (n + 1) (.rangeFunc f ps asg body) ⟨l, H⟩ = (match okOperand f, envL l f with
      | true, .func (.func g) first cap =>
        if first.isEmpty then
          match evCallW T X (evCode P T X n) g (.func (.yield H.next) #[] #[] :: cap.toList) (H.alloc (.loop .ready none l ps asg body)) with
          | some (_, H') =>
            match H'.get H.next with
            | some (.loop st pend t p a b) =>
              if st = .busy then none else
              match pend with
              | none => some (.normal, ⟨l, H'.set H.next (.loop .exhausted pend t p a b)⟩)
              | some .ret => some (.ret, ⟨l, H'.set H.next (.loop .exhausted pend t p a b)⟩)
              | some (.exit id) => some (.exit id, ⟨l, H'.set H.next (.loop .exhausted pend t p a b)⟩)
              | _ => none
            | _ => none
          | none => none
        else none
      | _, _ => none) := rfl
  have he : (#[] : Array Value).isEmpty = true := rfl
  rw [hk, hf] at key
  simp only [he, if_true, h1, h2, if_neg h3] at key
  cases pend with
  | none => exact ⟨n + 1, _, _, key, h4⟩
  | some c =>
    cases c with
    | ret => exact ⟨n + 1, _, _, key, h4⟩
    | exit i => exact ⟨n + 1, _, _, key, h4⟩
    | _ => exact h4.elim

/-! ### drawn regions in which nothing turns memory -/
theorem Ds.nil {ops : Array Oper} {l : List Value} {H : AH} {Q : List Value → Prop} (h : Q l) : Ds P T X ops [] l H Q :=
  ⟨0, [], l, rfl, rfl, fun i s v hi => absurd hi (by simp), h⟩

theorem Ds.one {ops : Array Oper} {o : Oper} {r : List Oper} {l : List Value} {H : AH} {Q : List Value → Prop} {n : Nat} {v : Value} (h1 : evOneW P T X (evCode P T X n) ops o ⟨l, H⟩ = some (v, H)) (hs : stillOp o.op = true)
    (hb : pureOp o.op = false → wantedL ops l o = true → evOp P T (envL l) o.op H = some (v, H) ∧ eqV v v = true ∧ (o.op.operands.toList.all fun x => belowV H.next (envL l x)) = true)
    (hq : Ds P T X ops r (putL l o.dst v) H Q) : Ds P T X ops (o :: r) l H Q := by
  obtain ⟨m, tr, l', h2, h3, h4, h5⟩ := hq
  have g1 := evOneW_le (evCode_le (P := P) (T := T) (X := X) (Nat.le_max_left n m)) h1
  have g2 := traceW_le (evCode_le (P := P) (T := T) (X := X) (Nat.le_max_right n m)) h2
  refine ⟨max n m, (⟨l, H⟩, v) :: tr, l', ?_, by simp [h3], ?_, h5⟩
  · show (match evOneW P T X (evCode P T X (max n m)) ops o ⟨l, H⟩ with
      | some (v, H') => (match traceW P T X (evCode P T X (max n m)) ops r ⟨putL l o.dst v, H'⟩ with | some (tr, s') => some (((⟨l, H⟩ : St), v) :: tr, s') | none => none)
      | none => none) = _
    rw [g1]; dsimp only; rw [g2]
  · intro i s v' hi
    cases i with
    | zero =>
      simp only [List.getElem?_cons_zero, Option.some.injEq, Prod.mk.injEq] at hi
      obtain ⟨rfl, rfl⟩ := hi
      exact ⟨o, rfl, rfl, hs, hb⟩
    | succ i => exact h4 i s v' (by simpa using hi)

theorem Ds.pass {ops : Array Oper} {o : Oper} {r : List Oper} {l : List Value} {H : AH} {Q : List Value → Prop} (hw : wantedL ops l o = false) (hs : stillOp o.op = true) (hq : Ds P T X ops r (putL l o.dst undef) H Q) : Ds P T X ops (o :: r) l H Q :=
  Ds.one (n := 0) (by simp only [evOneW, hw]; rfl) hs (fun _ h => by rw [hw] at h; cases h) hq

theorem Ds.op {ops : Array Oper} {o : Oper} {r : List Oper} {l : List Value} {H : AH} {Q : List Value → Prop} {v : Value} (hw : wantedL ops l o = true) (hk : o.op.operands.toList.all okOperand = true) (hc : isCallV o.op = false) (hs : stillOp o.op = true)
    (he : evOp P T (envL l) o.op H = some (v, H)) (hb : pureOp o.op = false → eqV v v = true ∧ (o.op.operands.toList.all fun x => belowV H.next (envL l x)) = true) (hq : Ds P T X ops r (putL l o.dst v) H Q) : Ds P T X ops (o :: r) l H Q :=
  Ds.one (n := 0) (by
    simp only [evOneW, hw, hk, if_true]
    rw [plain_oper hc]; exact he) hs (fun h _ => ⟨he, hb h⟩) hq

theorem W.still {pos : Nat} {ops : Array Oper} {l : List Value} {H : AH} {Q : Ex → List Value → AH → Prop} (h : Ds P T X ops ops.toList l H fun l' => Q .normal l' H) : W P T X (.region pos ops true) l H Q := by
  obtain ⟨n, tr, l', h1, h2, h3, h4⟩ := h
  have hstill : ∀ (i : Nat) (o : Oper), ops[i]? = some o → stillOp o.op = true := fun i o ho => by
    have hi : i < tr.length := by rw [h2]; simpa using (Array.getElem?_eq_some_iff.1 ho).1
    obtain ⟨o', k1, _, k2, _⟩ := h3 i tr[i].1 tr[i].2 (by simp [hi])
    rw [Array.getElem?_toList, ho] at k1
    cases k1; exact k2
  have hl : louds ops = [] := by
    unfold louds
    rw [List.filter_eq_nil_iff]
    intro i _ hi
    split at hi
    · rename_i o ho
      simp [loudOp, hstill i o ho] at hi
    · cases hi
  have hH : ∀ i, heapAhead tr ⟨l', H⟩ i = H := fun i => by
    unfold heapAhead
    split
    · rename_i s v hi
      obtain ⟨_, _, k, _⟩ := h3 i s v hi
      exact k
    · rfl
  have hsteady : steadyW P T ops tr ⟨l', H⟩ = true := by
    unfold steadyW
    rw [hl]
    rw [List.all_eq_true]
    intro i hi
    have hi : i < ops.size := by simpa using hi
    have hi' : i < tr.length := by rw [h2]; simpa using hi
    obtain ⟨o', k1, k2, k3, k4⟩ := h3 i tr[i].1 tr[i].2 (by simp [hi'])
    rw [Array.getElem?_toList] at k1
    have e : tr[i]? = some (tr[i].1, tr[i].2) := by simp [hi']
    rw [k1, e]
    dsimp only
    split
    · rename_i hc
      simp only [Bool.and_eq_true, Bool.not_eq_true'] at hc
      obtain ⟨k5, k6, k7⟩ := k4 hc.1.2 hc.2
      have e0 : ∀ f : Nat → Bool, ([] : List Nat).all f = true := fun _ => rfl
      rw [List.nil_append, List.all_cons, e0, e0, Bool.and_true, if_pos rfl, hH, k5]
      dsimp only
      rw [k6, k7]; rfl
    · rfl
  have htidy : tidyW ops tr ⟨l', H⟩ = true := by
    unfold tidyW
    rw [List.all_eq_true]
    intro i hi
    have hi : i < ops.size := by simpa using hi
    have hi' : i < tr.length := by rw [h2]; simpa using hi
    obtain ⟨o', k1, k2, k3, k4⟩ := h3 i tr[i].1 tr[i].2 (by simp [hi'])
    rw [Array.getElem?_toList] at k1
    have e : tr[i]? = some (tr[i].1, tr[i].2) := by simp [hi']
    rw [k1, e]
    simp only [hH, k2, k3, Bool.true_or, Bool.and_true]
    rw [Nat.ble_eq]; exact Nat.le_refl _
  refine ⟨n + 1, .normal, ⟨l', H⟩, ?_, h4⟩
  show (evRegionW P T X (evCode P T X n) ops true ⟨l, H⟩).map _ = _
  have : evRegionW P T X (evCode P T X n) ops true ⟨l, H⟩ = some ⟨l', H⟩ := by
    unfold evRegionW
    rw [if_pos rfl, h1]
    simp only [hsteady, htidy, Bool.and_self, if_true]
  rw [this]; rfl
end
end Go.Wp
