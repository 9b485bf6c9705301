/- Code of the swifter evaluator: what is laid down for each. -/
import Derived.Test.YtaoaddokgofifaaGreatFvC
namespace Go.Fv
open Go.Ev

structure On (D : Nat) where
  run : RC → NT D → AH → (Value → NT D → AH → Ans) → Ans
structure Rg (D : Nat) where
  run : RC → NT D → AH → (NT D → AH → Ans) → Ans
abbrev TrL (D : Nat) := List (NT D × AH × Value)
structure Tc (D : Nat) where
  run : RC → NT D → AH → TrL D → (NT D → AH → TrL D → Ans) → Ans
structure Cd (D : Nat) where
  run : RC → NT D → AH → (NT D → AH → Ans) → (Nat → NT D → AH → Ans) → (NT D → AH → Ans) → Ans
structure Fc where
  run : RC → List Value → AH → (Value → AH → Ans) → Ans
structure Rs (D : Nat) where
  run : NT D → AH → (List Value → Ans) → Ans

def dstOK (m : Nat) : Option Tmp → Bool
  | none => true
  | some d => Nat.blt d m

/-- What is put behind a value. -/
noncomputable def cPut (D : Nat) (d : Option Tmp) (c : Ob D) : On D :=
  match c with
  | ⟨f⟩ =>
    match d with
    | none => ⟨fun rc t H k => f rc t H (fun v H' => k v t H')⟩
    | some d => match cSet D d with | ⟨w⟩ => ⟨fun rc t H k => f rc t H (fun v H' => w v t (fun t' => k v t' H'))⟩

def guardOf (ops : Array Oper) (j : Nat) : Option Tmp := (ops[j]?).bind (·.dst)

/-- Whether a slot holds that truth. -/
noncomputable def isB (v : Value) (want : Bool) (a b : Ans) : Ans :=
  vRec v (fun x => Bool.rec (motive := fun _ => Ans) (Bool.rec (motive := fun _ => Ans) a b x) (Bool.rec (motive := fun _ => Ans) b a x) want) (fun _ _ => b) (fun _ => b) (fun _ _ _ => b) (fun _ => b) (fun _ => b) b

noncomputable def below1C (n : Nat) (v : Value) (k : Ans) : Ans :=
  vRec v (fun _ => k) (fun _ _ => k) (fun a => Option.rec (motive := fun _ => Ans) k (fun a => iteC (Nat.blt a.block n) k none) a) (fun a _ _ => Option.rec (motive := fun _ => Ans) k (fun a => iteC (Nat.blt a.block n) k none) a)
    (fun _ => iteC (belowV n v) k none) (fun _ => iteC (belowV n v) k none) (iteC (belowV n v) k none)
noncomputable def belowL (n : Nat) (l : List Value) : Ans → Ans := List.rec (motive := fun _ => Ans → Ans) (fun k => k) (fun x _ ih k => below1C n x (ih k)) l
/-- Where a value names none but what is there. -/
noncomputable def belowC (n : Nat) (v : Value) (k : Ans) : Ans :=
  vRec v (fun _ => k) (fun _ _ => k) (fun a => Option.rec (motive := fun _ => Ans) k (fun a => iteC (Nat.blt a.block n) k none) a) (fun a _ _ => Option.rec (motive := fun _ => Ans) k (fun a => iteC (Nat.blt a.block n) k none) a)
    (fun c => belowL n c.toList k) (fun c => belowL n c.toList k) (iteC (belowV n v) k none)
structure Tb (D : Nat) where
  run : NT D → Nat → Ans → Ans
noncomputable def cBelow (D m : Nat) : List Operand → Tb D
  | [] => ⟨fun _ _ k => k⟩
  | .tmp i :: r => match cArg D m (.tmp i), cBelow D m r with | ⟨f⟩, ⟨g⟩ => ⟨fun t n k => belowC n (f t) (g t n k)⟩
  | _ :: r => cBelow D m r
/-- Where an operation of a drawn region names none but what is there. -/
noncomputable def tidyC {D : Nat} (f : RC → NT D → AH → (Value → AH → Ans) → Ans) (g : NT D → Nat → Ans → Ans) : Ob D :=
  ⟨fun rc t H k => g t H.next (f rc t H (fun v H' => iteC (Nat.ble H.next H'.next) (k v H') none))⟩
noncomputable def cTidy (D m : Nat) (draw : Bool) (o : Op) (c : Ob D) : Ob D :=
  if draw && !stillOp o then match c, cBelow D m o.operands.toList with | ⟨f⟩, ⟨g⟩ => tidyC f g else c

noncomputable def cOne (P : Program) (T : TT) (D m : Nat) (draw : Bool) (ops : Array Oper) (o : Oper) : On D :=
  if o.op.operands.toList.all okOperand && dstOK m o.dst then
    match cPut D o.dst (cTidy D m draw o.op (cOpn P T D m o.op)) with
    | ⟨f⟩ =>
      match o.guard with
      | none => ⟨f⟩
      | some (j, want) =>
        match guardOf ops j with
        | some s =>
          if Nat.blt s m then
            match cGet D s, cPut D o.dst ⟨fun _ _ H k => k undef H⟩ with
            | ⟨g⟩, ⟨w⟩ => ⟨fun rc t H k => isB (g t) want (f rc t H k) (w rc t H k)⟩
          else ⟨fun _ _ _ _ => none⟩
        | none => ⟨fun _ _ _ _ => none⟩
  else ⟨fun _ _ _ _ => none⟩

noncomputable def cOps (P : Program) (T : TT) (D m : Nat) (ops : Array Oper) : List Oper → Rg D
  | [] => ⟨fun _ t H k => k t H⟩
  | o :: r => match cOne P T D m false ops o, cOps P T D m ops r with | ⟨f⟩, ⟨g⟩ => ⟨fun rc t H k => f rc t H (fun _ t' H' => g rc t' H' k)⟩

noncomputable def cTr (P : Program) (T : TT) (D m : Nat) (ops : Array Oper) : List Oper → Tc D
  | [] => ⟨fun _ t H acc k => k t H acc⟩
  | o :: r => match cOne P T D m true ops o, cTr P T D m ops r with | ⟨f⟩, ⟨g⟩ => ⟨fun rc t H acc k => f rc t H (fun v t' H' => g rc t' H' ((t, H, v) :: acc) k)⟩

/-- What an operation reads in memory. -/
def evRead (P : Program) (T : TT) (env : Operand → Value) (o : Op) (H : AH) : Option Value :=
  match o with
  | .load t a => loadV T H t (env a)
  | .lookup t m k ok => lookupV P T t (env m) (env k) ok H
  | .call { callee := .builtin .len, args, argTypes } => lenB T argTypes (args.toList.map env) H
  | _ => none

structure Sm (D : Nat) where
  run : NT D → Value → AH → Ans → Ans
/-- Whether an operation that reads reads the same there. -/
noncomputable def cSame1 (P : Program) (T : TT) (D m : Nat) (o : Op) : Sm D :=
  match o with
  | .load ty a =>
    match aggT T ty, cArg D m a with
    | some false, ⟨f⟩ => ⟨fun t v H k => vPtr (f t) (fun b o => iteC (Nat.blt b H.next) (cellsAt H b (fun c _ => cellK c o (fun v' => iteC (eqV v v') k none))) none)⟩
    | _, ⟨f⟩ => ⟨fun t v H k => optV (loadV T H ty (f t)) (fun v' => iteC (eqV v v') (belowC H.next (f t) k) none)⟩
  | o => match cBelow D m o.operands.toList with | ⟨g⟩ => ⟨fun t v H k => optV (evRead P T (envN m t) o H) (fun v' => iteC (eqV v v') (g t H.next k) none)⟩
noncomputable def cSame (P : Program) (T : TT) (D m : Nat) (ops : Array Oper) (o : Oper) : Sm D :=
  match cSame1 P T D m o.op with
  | ⟨f⟩ =>
    match o.guard with
    | none => ⟨f⟩
    | some (j, want) =>
      match guardOf ops j with
      | some s => if Nat.blt s m then match cGet D s with | ⟨g⟩ => ⟨fun t v H k => isB (g t) want (f t v H k) k⟩ else ⟨fun _ _ _ _ => none⟩
      | none => ⟨fun _ _ _ _ => none⟩

/-- The operations of a region that read, and behind which loud ones each may stand. -/
def planOf (ops : Array Oper) : List (Nat × List Nat) :=
  let b := Region.before ops
  let ls := louds ops
  (List.range ops.size).filterMap fun i =>
    match ops[i]? with
    | some o => if stillOp o.op && !pureOp o.op then
        some (i, (ls ++ [ops.size]).filter fun p => ls.all fun e => if e < p then !(b.getD e 0).testBit i else !(b.getD i 0).testBit e) else none
    | none => none

/-- The step so many ahead of the last. -/
noncomputable def accK {D : Nat} (l : TrL D) : Nat → (NT D → AH → Value → Ans) → Ans :=
  List.rec (motive := fun _ => Nat → (NT D → AH → Value → Ans) → Ans) (fun _ _ => none)
    (fun x _ ih i k => Nat.rec (motive := fun _ => Ans) (Prod.rec (motive := fun _ => Ans) (fun t p => Prod.rec (motive := fun _ => Ans) (fun H v => k t H v) p) x) (fun j _ => ih j k) i) l
structure Pn (D : Nat) where
  run : TrL D → AH → Ans → Ans
noncomputable def cChk {D : Nat} (n i : Nat) (f : NT D → Value → AH → Ans → Ans) : List Nat → Pn D
  | [] => ⟨fun _ _ k => k⟩
  | q :: r =>
    match cChk n i f r, Nat.beq q n, n - 1 - q, n - 1 - i with
    | ⟨g⟩, true, _, j => ⟨fun acc H k => accK acc j (fun t _ v => f t v H (g acc H k))⟩
    | ⟨g⟩, false, d, j => ⟨fun acc H k => accK acc j (fun t _ v => accK acc d (fun _ Hq _ => f t v Hq (g acc H k)))⟩
noncomputable def cPlan (P : Program) (T : TT) (D m : Nat) (ops : Array Oper) : List (Nat × List Nat) → Pn D
  | [] => ⟨fun _ _ k => k⟩
  | (i, qs) :: r =>
    match ops[i]?, cPlan P T D m ops r with
    | some o, ⟨g⟩ => match cSame P T D m ops o with | ⟨f⟩ => match cChk ops.size i f qs with | ⟨h⟩ => ⟨fun acc H k => h acc H (g acc H k)⟩
    | none, _ => ⟨fun _ _ _ => none⟩

noncomputable def loopF {D : Nat} (f : RC → NT D → AH → (NT D → AH → Ans) → (Nat → NT D → AH → Ans) → (NT D → AH → Ans) → Ans) (n : Nat) : RC → NT D → AH → (Nat → NT D → AH → Ans) → (NT D → AH → Ans) → Ans :=
  Nat.rec (motive := fun _ => RC → NT D → AH → (Nat → NT D → AH → Ans) → (NT D → AH → Ans) → Ans) (fun _ _ _ _ _ => none) (fun _ ih rc t H ke kr => f rc t H (fun t' H' => ih rc t' H' ke kr) ke kr) n

/-- Behind a loop over a function. -/
noncomputable def endF {D : Nat} (l : Nat) (t : NT D) (H : AH) (kn : NT D → AH → Ans) (ke : Nat → NT D → AH → Ans) (kr : NT D → AH → Ans) : Ans :=
  match getT H.tr l with
  | some (.loop .busy _ _ _ _ _) => none
  | some (.loop _ pend tt ps a b) =>
    setH (.loop .exhausted pend tt ps a b) l H (fun H' =>
      match pend with
      | none => kn t H'
      | some .ret => kr t H'
      | some (.exit id) => ke id t H'
      | _ => none)
  | _ => none

/-- A slot that holds a function is called as the function of a loop. -/
noncomputable def rangeC {D : Nat} (all : NT D → List Value) (ps : Array Tmp) (asg body : Code) (v : Value) (rc : RC) (t : NT D) (H : AH) (kn : NT D → AH → Ans) (ke : Nat → NT D → AH → Ans) (kr : NT D → AH → Ans) : Ans :=
  match v with
  | .func (.func fn) first cap => iteC first.isEmpty
    (allocC (.loop .ready none (all t) ps asg body) H (fun _ H1 => rc (.fn fn) (.func (.yield H.next) #[] #[] :: cap.toList) H1 (fun _ H' => endF H.next t H' kn ke kr))) none
  | _ => none

noncomputable def cCode (P : Program) (T : TT) (D m : Nat) : Code → Cd D
  | .skip => ⟨fun _ t H kn _ _ => kn t H⟩
  | .ret => ⟨fun _ t H _ _ kr => kr t H⟩
  | .exit id => ⟨fun _ t H _ ke _ => ke id t H⟩
  | .seq a b => match cCode P T D m a, cCode P T D m b with | ⟨f⟩, ⟨g⟩ => ⟨fun rc t H kn ke kr => f rc t H (fun t' H' => g rc t' H' kn ke kr) ke kr⟩
  | .cond x a b =>
    match cArg D m x, cCode P T D m a, cCode P T D m b with
    | ⟨c⟩, ⟨f⟩, ⟨g⟩ => ⟨fun rc t H kn ke kr => vBool (c t) (fun x => iteC x (f rc t H kn ke kr) (g rc t H kn ke kr))⟩
  | .block id a => match cCode P T D m a with | ⟨f⟩ => ⟨fun rc t H kn ke kr => f rc t H kn (fun i t' H' => iteC (Nat.beq i id) (kn t' H') (ke i t' H')) kr⟩
  | .loop a => match cCode P T D m a with | ⟨f⟩ => ⟨fun rc t H _ ke kr => loopF f 100000 rc t H ke kr⟩
  | .region _ ops false => match cOps P T D m ops ops.toList with | ⟨f⟩ => ⟨fun rc t H kn _ _ => f rc t H kn⟩
  | .region _ ops true =>
    match cTr P T D m ops ops.toList, planOf ops with
    | ⟨f⟩, [] => ⟨fun rc t H kn _ _ => f rc t H [] (fun t' H' _ => kn t' H')⟩
    | ⟨f⟩, p => match cPlan P T D m ops p with | ⟨g⟩ => ⟨fun rc t H kn _ _ => f rc t H [] (fun t' H' acc => g acc H' (kn t' H'))⟩
  | .rangeFunc f ps asg body =>
    if okOperand f then
      match cArg D m f, cArgs D m ((List.range m).map .tmp) with
      | ⟨g⟩, ⟨al⟩ => ⟨fun rc t H kn ke kr => rangeC al ps asg body (g t) rc t H kn ke kr⟩
    else ⟨fun _ _ _ _ _ _ => none⟩
  | _ => ⟨fun _ _ _ _ _ _ => none⟩

/-- How deep the tree of the slots is. -/
def depthOf (m : Nat) : Nat := if Nat.ble m 8 then 1 else if Nat.ble m 64 then 2 else 3

noncomputable def vNT (v : Value) (k : Ans) : Ans := vRec v (fun _ => k) (fun _ _ => k) (fun _ => k) (fun _ _ _ => k) (fun _ => k) (fun _ => none) k

/-- What a function answers. -/
noncomputable def cRes (T : TT) (D m : Nat) : List ResultVar → Rs D
  | [] => ⟨fun _ _ k => k []⟩
  | .tmp i :: rs => match cArg D m (.tmp i), cRes T D m rs with | ⟨f⟩, ⟨g⟩ => ⟨fun t H k => vNT (f t) (g t H (fun l => k (f t :: l)))⟩
  | .cell a ty :: rs =>
    match aggT T ty, cArg D m (.tmp a), cRes T D m rs with
    | some true, ⟨f⟩, ⟨g⟩ =>
      match szT T ty with
      | some n => ⟨fun t H k => vPtr (f t) (fun b o => cellsAt H b (fun c _ => segC o n c (fun vs => g t H (fun l => k (.agg vs.toArray :: l)))))⟩
      | none => ⟨fun _ _ _ => none⟩
    | some false, ⟨f⟩, ⟨g⟩ => ⟨fun t H k => vPtr (f t) (fun b o => cellsAt H b (fun c _ => cellK c o (fun v => vNT v (g t H (fun l => k (v :: l))))))⟩
    | _, ⟨f⟩, ⟨g⟩ => ⟨fun t H k => optV (loadV T H ty (f t)) (fun v => vNT v (g t H (fun l => k (v :: l))))⟩

structure Ps (D : Nat) where
  run : List Value → NT D → (NT D → Ans) → Ans
/-- Arguments come to the first slots. -/
noncomputable def cPars (D : Nat) : List Nat → Ps D
  | [] => ⟨fun l t k => List.rec (motive := fun _ => Ans) (k t) (fun _ _ _ => none) l⟩
  | i :: is => match cSet D i, cPars D is with | ⟨w⟩, ⟨g⟩ => ⟨fun l t k => List.rec (motive := fun _ => Ans) (k t) (fun x r _ => w x t (fun t' => g r t' k)) l⟩
def blankT (D : Nat) : NT D := ofN D (fun _ => undef)

noncomputable def cFn (P : Program) (T : TT) (X : Prims) (f : FuncId) : Fc :=
  match X f with
  | some p => ⟨fun _ args H k => optVH (p args H) k⟩
  | none =>
    match T.fn f with
    | some fn =>
      match fn.body with
      | some c =>
        match Nat.ble fn.ntmps 512, cCode P T (depthOf fn.ntmps) fn.ntmps c, cRes T (depthOf fn.ntmps) fn.ntmps fn.results.toList, cPars (depthOf fn.ntmps) (List.range (Nat.min 16 fn.ntmps)), blankT (depthOf fn.ntmps) with
        | true, ⟨run⟩, ⟨res⟩, ⟨par⟩, b => ⟨fun rc args H k => par args b (fun t0 =>
          run rc t0 H (fun t H' => res t H' (fun vs => k (resultOf vs) H')) (fun _ _ _ => none) (fun t H' => res t H' (fun vs => k (resultOf vs) H')))⟩
        | false, _, _, _, _ => ⟨fun _ _ _ _ => none⟩
      | none => ⟨fun _ _ _ _ => none⟩
    | none => ⟨fun _ _ _ _ => none⟩

noncomputable def callF (P : Program) (T : TT) (X : Prims) (rc : RC) (f : FuncId) (args : List Value) (H : AH) (k : Value → AH → Ans) : Ans :=
  match cFn P T X f with
  | ⟨run⟩ => run rc args H k

/-- A number, with what comes behind. -/
noncomputable def numK (n : Nat) (k : Nat → Ans) : Ans := Nat.rec (motive := fun _ => Ans) (k 0) (fun p _ => k (Nat.succ p)) n
theorem numK_eq (n : Nat) (k : Nat → Ans) : numK n k = k n := by cases n <;> rfl

/-- A loop's record is turned. -/
noncomputable def turnF (l : Nat) (st : LoopState) (jump : Option Code) (b : Bool) (H : AH) (k : Value → AH → Ans) : Ans :=
  match getT H.tr l with
  | some (.loop _ _ tt p a bd) => setH (.loop st jump tt p a bd) l H (fun H4 => k (.bool b) H4)
  | _ => none

/-- Arguments come to slots. -/
noncomputable def setPs (D m : Nat) (ps : List Tmp) : List Value → NT D → (NT D → Ans) → Ans :=
  List.rec (motive := fun _ => List Value → NT D → (NT D → Ans) → Ans) (fun _ t k => k t)
    (fun p _ ih l t k => List.rec (motive := fun _ => Ans) (k t) (fun x r _ => iteC (Nat.blt p m) ((cSet D p).run x t (fun t' => ih r t' k)) none) l) ps
noncomputable def yieldF (P : Program) (T : TT) (rc : RC) (l : Nat) (args : List Value) (H : AH) (k : Value → AH → Ans) : Ans :=
  match getT H.tr l with
  | some (.loop _ _ tmps ps asg body) =>
    numK tmps.length (fun m => iteC (and (Nat.beq args.length ps.size) (Nat.ble m 512))
      (match cCode P T (depthOf m) m asg, cCode P T (depthOf m) m body with
      | ⟨fa⟩, ⟨fb⟩ =>
        setPs (depthOf m) m ps.toList args (ofN (depthOf m) (fun i => getK tmps i)) (fun t0 => fa rc t0 H
          (fun t H1 =>
            match getT H1.tr l with
            | some (.loop .ready pend tt p a b) =>
              setH (.loop .busy pend tt p a b) l H1 (fun H2 =>
                fb rc t H2 (fun _ H3 => turnF l .ready none true H3 k) (fun id _ H3 => turnF l .done (some (.exit id)) false H3 k) (fun _ H3 => turnF l .done (some .ret) false H3 k))
            | _ => none)
          (fun _ _ _ => none) (fun _ _ => none))) none)
  | _ => none

noncomputable def rcAt (P : Program) (T : TT) (X : Prims) (n : Nat) : RC :=
  Nat.rec (motive := fun _ => RC) (fun _ _ _ _ => none) (fun _ ih tg args H k =>
    Tg.rec (motive := fun _ => Ans) (fun f => callF P T X ih f args H k) (fun l => yieldF P T ih l args H k) tg) n

end Go.Fv
