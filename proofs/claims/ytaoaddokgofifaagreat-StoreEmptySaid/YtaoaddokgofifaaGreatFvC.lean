/- Single operations of the swifter evaluator: what is laid down for each. -/
import Derived.Test.YtaoaddokgofifaaGreatFvB
namespace Go.Fv
open Go.Ev

/-- A comparison. -/
noncomputable def cmpC (c : Int → Int → Bool) (x y : Value) (k : Value → Ans) (s : Ans) : Ans :=
  vInt x (fun k1 a => vInt y (fun k2 b => iteC (Nat.beq (kindN k1) (kindN k2)) (k (.bool (c a b))) s) s) s
noncomputable def arC (f : Nat → Nat → Nat) (ok : Nat → Nat → Nat → Nat → Bool) (x y : Value) (k : Value → Ans) (s : Ans) : Ans :=
  vNat x (fun k1 a => vNat y (fun k2 b => iteC (and (Nat.beq (kindN k1) (kindN k2)) (ok (limN k1) a b (f a b))) (k (.int k1 (.ofNat (f a b)))) s) s) s
noncomputable def shC (f : Nat → Nat → Nat) (x y : Value) (k : Value → Ans) (s : Ans) : Ans :=
  vNat x (fun k1 a => vNat y (fun _ b => iteC (and (Nat.ble b (bitsN k1)) (Nat.blt (f a b) (limN k1))) (k (.int k1 (.ofNat (f a b)))) s) s) s

/-- A value that may be lacking. -/
noncomputable def optV (x : Option Value) (k : Value → Ans) : Ans := Option.rec (motive := fun _ => Ans) none k x
theorem optV_eq {x : Option Value} {k : Value → Ans} {r : Value × AH} (h : optV x k = some r) : ∃ v, x = some v ∧ k v = some r := by
  cases x with
  | none => cases h
  | some v => exact ⟨v, rfl, h⟩
noncomputable def optVH (x : Option (Value × AH)) (k : Value → AH → Ans) : Ans := Option.rec (motive := fun _ => Ans) none (fun p => k p.1 p.2) x
theorem optVH_eq {x : Option (Value × AH)} {k : Value → AH → Ans} {r : Value × AH} (h : optVH x k = some r) : ∃ v H, x = some (v, H) ∧ k v H = some r := by
  cases x with
  | none => cases h
  | some v => exact ⟨v.1, v.2, rfl, h⟩
noncomputable def optH (x : Option AH) (k : AH → Ans) : Ans := Option.rec (motive := fun _ => Ans) none k x
theorem optH_eq {x : Option AH} {k : AH → Ans} {r : Value × AH} (h : optH x k = some r) : ∃ v, x = some v ∧ k v = some r := by
  cases x with
  | none => cases h
  | some v => exact ⟨v, rfl, h⟩

noncomputable def slowO (P : Program) (T : TT) (D m : Nat) (o : Op) : Ob D := ⟨fun _ t H k => slowF P T o (envN m t) H k⟩
def failO (D : Nat) : Ob D := ⟨fun _ _ _ _ => none⟩

noncomputable def cBin (P : Program) (T : TT) (D m : Nat) (op : BinOp) (ty : TypeId) (x y : Operand) : Ob D :=
  match cArg D m x, cArg D m y with
  | ⟨f⟩, ⟨g⟩ =>
    match CmpOp.of op with
    | some c => match CmpOp.fI c with | cf => ⟨fun _ t H k => cmpC cf (f t) (g t) (fun v => k v H) (optV (binV P T op ty x y (f t) (g t)) (fun v => k v H))⟩
    | none =>
      match ArOp.of op with
      | some c => match ArOp.f c, ArOp.ok c with | af, ao => ⟨fun _ t H k => arC af ao (f t) (g t) (fun v => k v H) (optV (binV P T op ty x y (f t) (g t)) (fun v => k v H))⟩
      | none =>
        match ShOp.of op with
        | some c => match ShOp.f c with | sf => ⟨fun _ t H k => shC sf (f t) (g t) (fun v => k v H) (optV (binV P T op ty x y (f t) (g t)) (fun v => k v H))⟩
        | none => ⟨fun _ t H k => optV (binV P T op ty x y (f t) (g t)) (fun v => k v H)⟩

/-- Where a field lies. -/
def offT (T : TT) (s : TypeId) (f : Nat) : Option Nat :=
  match T.und s with
  | some (.struct fs) =>
    match fs[f]? with
    | some fd =>
      match szT T fd.type with
      | some (_ + 1) => some fd.offset
      | _ => none
    | none => none
  | _ => none

/-- What a row of elements is: how many they are, if that is known; how many cells each has. -/
inductive RowT where
  | array (n sz : Nat)
  | slice (sz : Nat)
def rowT (T : TT) (t : TypeId) : Option RowT :=
  match T.und t with
  | some (.array n e) => match szT T e with | some sz => some (.array n sz) | none => none
  | some (.slice e) => match szT T e with | some sz => some (.slice sz) | none => none
  | _ => none

/-- One cell or several. -/
noncomputable def isOne (v : Value) (a b : Ans) : Ans := vRec v (fun _ => a) (fun _ _ => a) (fun _ => a) (fun _ _ _ => a) (fun _ => b) (fun _ => b) a
/-- The cells of a row of scalars. -/
noncomputable def vAgg (v : Value) (f : List Value → Ans) (s : Ans) : Ans := vRec v (fun _ => s) (fun _ _ => s) (fun _ => s) (fun _ _ _ => s) (fun c => f c.toList) (fun _ => s) s
noncomputable def isOneB (v : Value) (a : Bool) : Bool :=
  Value.rec (motive_1 := fun _ => Bool) (motive_2 := fun _ => Bool) (motive_3 := fun _ => Bool) (fun _ => a) (fun _ _ => a) (fun _ _ => a) (fun _ _ _ => a) (fun _ => a) (fun _ => a) (fun _ _ _ => a) (fun _ => a) (fun _ => a) (fun _ _ _ _ _ => a) a (fun _ _ _ => a) a
    (fun _ _ => false) (fun _ _ => false) (fun _ _ => false) false (fun _ _ _ _ => false) v
/-- All are one cell. -/
noncomputable def all1B (l : List Value) : Bool := List.rec (motive := fun _ => Bool) true (fun x _ ih => isOneB x ih) l
noncomputable def all1C (l : List Value) (k : Ans) : Ans := iteC (all1B l) k none
/-- So many, all of one cell. -/
noncomputable def allNB (l : List Value) : Nat → Bool :=
  List.rec (motive := fun _ => Nat → Bool) (fun n => Nat.rec (motive := fun _ => Bool) true (fun _ _ => false) n) (fun x _ ih n => Nat.rec (motive := fun _ => Bool) false (fun p _ => isOneB x (ih p)) n) l
noncomputable def allN (l : List Value) (n : Nat) (k : Ans) : Ans := iteC (allNB l n) k none

/-- The cells of a value, if there are so many. -/
noncomputable def vCells (v : Value) (n : Nat) (f : List Value → Ans) : Ans :=
  isOne v (iteC (Nat.beq n 1) (f [v]) none) (vAgg v (fun c => allN c n (f c)) none)

structure Fl (D : Nat) where
  run : NT D → List Value → (List Value → Ans) → Ans
noncomputable def cFill (D m : Nat) (place : Nat → Option (Nat × Nat)) : List (Nat × Operand) → Fl D
  | [] => ⟨fun _ c k => k c⟩
  | (i, x) :: r =>
    match place i, cArg D m x, cFill D m place r with
    | some (o, n), ⟨f⟩, ⟨g⟩ => ⟨fun t c k => vCells (f t) n (fun vs => rowC vs o c (fun c' => g t c' k))⟩
    | none, _, _ => ⟨fun _ _ _ => none⟩

/-- Where the parts of a value lie. -/
def placeT (T : TT) (t : TypeId) : Option (Nat → Option (Nat × Nat)) :=
  match T.und t with
  | some (.struct fs) => if fs.toList.all (fun f => (szT T f.type).isSome) then some (fieldPl T fs) else none
  | some (.array _ e) =>
    match szT T e with
    | some n => some (fun i => some (i * n, n))
    | none => none
  | _ => none

structure Go1 (D : Nat) where
  run : NT D → Option Value
def cOpt (D m : Nat) : Option Operand → Go1 D
  | none => ⟨fun _ => none⟩
  | some x => match cArg D m x with | ⟨f⟩ => ⟨fun t => some (f t)⟩

/-! ### append -/
/-- Cells from a place on, and others behind them. -/
noncomputable def takeA (n : Nat) : List Value → List Value → (List Value → Ans) → Ans :=
  Nat.rec (motive := fun _ => List Value → List Value → (List Value → Ans) → Ans) (fun new _ k => k new) (fun _ ih new c k => List.rec (motive := fun _ => Ans) none (fun x r _ => ih new r (fun r' => k (x :: r'))) c) n
noncomputable def segA (o n : Nat) : List Value → List Value → (List Value → Ans) → Ans :=
  Nat.rec (motive := fun _ => List Value → List Value → (List Value → Ans) → Ans) (fun new c k => takeA n new c k) (fun _ ih new c k => List.rec (motive := fun _ => Ans) none (fun _ r _ => ih new r k) c) o

noncomputable def srcC (sz : Nat) (x : Value) (H : AH) (f : Nat → List Value → Ans) (s : Ans) : Ans :=
  vSli x (fun n _ => iteC (Nat.beq n 0) (f 0 []) none) (fun b o n _ => cellsAt H b (fun cs _ => segC o (Nat.mul n sz) cs (fun new => all1C new (f n new)))) s
noncomputable def fitC (bytes n : Nat) (k : Ans) : Ans := iteC (Nat.ble (Nat.add (Nat.mul n (2 * (bytes + 1))) (1024 * (bytes + 1))) mostBytes) k none
/-- A block is given up, and a new one laid. -/
noncomputable def turnC (b : Nat) (o : AObj) (H : AH) (k : AH → Ans) : Ans :=
  AH.rec (motive := fun _ => Ans) (fun tr nx => putR none tr b (fun tr1 => putR (some o) tr1 nx (fun tr' => k ⟨tr', Nat.succ nx⟩))) H
noncomputable def newC (sz : Nat) (e : TypeId) (n : Nat) (new : List Value) (H : AH) (k : Value → AH → Ans) : Ans :=
  allocC (.cells new e) H (fun _ H' => k (.slice (some ⟨H.next, 0, none⟩) n (2 * sz)) H')
noncomputable def roomC (sz : Nat) (b o len c n : Nat) (new : List Value) (H : AH) (k : Value → AH → Ans) : Ans :=
  cellsAt H b (fun cs e' => rowC new (Nat.add o (Nat.mul len sz)) cs (fun cs' => setH (.cells cs' e') b H (fun H' => k (.slice (some ⟨b, o, none⟩) (Nat.add len n) c) H')))
noncomputable def moveC (sz : Nat) (e : TypeId) (b o len n : Nat) (new : List Value) (H : AH) (k : Value → AH → Ans) : Ans :=
  cellsAt H b (fun cs _ => segA o (Nat.mul len sz) new cs (fun l => newC sz e (Nat.add len n) l H k))
noncomputable def growC (sz : Nat) (e : TypeId) (b o len c n : Nat) (new : List Value) (H : AH) (k : Value → AH → Ans) : Ans :=
  cellsAt H b (fun cs e' => iteC (Nat.beq e' e) (segA o (Nat.mul len sz) new cs (fun l => turnC b (.cells l e) H (fun H' => k (.slice (some ⟨H.next, 0, none⟩) (Nat.add len n) c) H'))) none)
noncomputable def appC (sz bytes : Nat) (e : TypeId) (s x : Value) (H : AH) (k : Value → AH → Ans) (slow : Ans) : Ans :=
  vSli s
    (fun n0 _ => iteC (Nat.beq n0 0) (srcC sz x H (fun n new => fitC bytes n (Nat.rec (motive := fun _ => Ans) (k (.slice none 0 0) H) (fun _ _ => newC sz e n new H k) n)) slow) none)
    (fun b o len c => srcC sz x H (fun n new => fitC bytes (Nat.add len n)
      (iteC (Nat.beq (Nat.mod c 2) 1)
        (iteC (Nat.ble (Nat.add len n) (Nat.div c 2)) (roomC sz b o len c n new H k) (moveC sz e b o len n new H k))
        (iteC (Nat.beq c (2 * sz)) (Nat.rec (motive := fun _ => Ans) (k s H) (fun _ _ => growC sz e b o len c n new H k) n) none))) slow)
    slow
/-- What an append is, by its types. -/
def appT (T : TT) (ts : Array TypeId) : Option (TypeId × Nat × Nat) :=
  match ts[0]? with
  | some st =>
    match T.und st with
    | some (.slice e) =>
      match T.inf e, (ts[1]?).bind T.und with
      | some i, some xd => if intDesc xd = false ∧ (zeroT T e).isSome = true ∧ (zeroT T e).map List.length = some i.size then some (e, i.size, i.bytes) else none
      | _, _ => none
    | _ => none
  | none => none

/-! ### slices of slices -/
structure Bo (D : Nat) where
  run : NT D → Nat → Nat → (Nat → Ans) → Ans
/-- A bound, from 0 to the greatest; or what stands for it. -/
noncomputable def cBo (D m : Nat) : Option Operand → Bo D
  | none => ⟨fun _ _ d k => k d⟩
  | some x => match cArg D m x with | ⟨f⟩ => ⟨fun t most _ k => vNat (f t) (fun _ n => iteC (Nat.ble n most) (k n) none) none⟩
noncomputable def offC (b o l m sz : Nat) : Addr := ⟨b, Bool.rec (motive := fun _ => Nat) (Nat.add o (Nat.mul l sz)) o (Nat.beq m l), none⟩
/-- Of a slice whose room is known; of one whose room isn't. -/
noncomputable def slC {D : Nat} (sz : Nat) (f : NT D → Value) (lo hi mx : NT D → Nat → Nat → (Nat → Ans) → Ans) (three : Bool) (slow : NT D → Ans) (t : NT D) (k : Value → Ans) : Ans :=
  vSli (f t) (fun _ _ => slow t)
    (fun b o n c => iteC (Nat.beq (Nat.mod c 2) 1)
      (mx t (Nat.div c 2) (Nat.div c 2) (fun m => hi t m n (fun h => iteC (Nat.ble h m) (lo t h 0 (fun l => k (.slice (some (offC b o l m sz)) (Nat.sub h l) (Nat.succ (Nat.mul 2 (Nat.sub m l)))))) none)))
      (iteC (Nat.beq c (2 * sz))
        (mx t n n (fun m => hi t m n (fun h => iteC (Nat.ble h m) (lo t h 0 (fun l => iteC three (k (.slice (some (offC b o l m sz)) (Nat.sub h l) (Nat.succ (Nat.mul 2 (Nat.sub m l))))) (k (.slice (some ⟨b, Nat.add o (Nat.mul l sz), none⟩) (Nat.sub h l) c)))) none))) none))
    (slow t)
noncomputable def arrC {D : Nat} (n sz : Nat) (f : NT D → Value) (lo hi mx : NT D → Nat → Nat → (Nat → Ans) → Ans) (t : NT D) (k : Value → Ans) : Ans :=
  vPtr (f t) (fun b o => mx t n n (fun m => hi t m n (fun h => iteC (Nat.ble h m) (lo t h 0 (fun l => k (.slice (some (offC b o l m sz)) (Nat.sub h l) (Nat.succ (Nat.mul 2 (Nat.sub m l)))))) none)))

noncomputable def cCall (P : Program) (T : TT) (D m : Nat) (c : Call) : Ob D :=
  match c with
  | { callee := .value f, args, .. } =>
    match cArgs D m args.toList with
    | ⟨ga⟩ =>
      match f with
      | .func g => ⟨fun rc t H k => rc (.fn g) (ga t) H k⟩
      | f =>
        match cArg D m f with
        | ⟨gf⟩ => ⟨fun rc t H k =>
          match gf t with
          | .func (.func g) first cap => iteC first.isEmpty (rc (.fn g) (ga t ++ cap.toList) H k) none
          | .func (.yield l) first cap => iteC (and first.isEmpty cap.isEmpty) (rc (.yd l) (ga t) H k) none
          | _ => none⟩
  | { callee := .builtin .len, args, argTypes } =>
    match (argTypes[0]?).bind T.und, args.toList with
    | some (.slice _), [x] => match cArg D m x with | ⟨f⟩ => ⟨fun _ t H k => vLen (f t) (fun n => k (.int .i64 (.ofNat n)) H)⟩
    | _, _ => slowO P T D m (.call { callee := .builtin .len, args, argTypes })
  | { callee := .builtin .append, args, argTypes } =>
    match appT T argTypes, args.toList with
    | some (e, sz, bytes), [s, x] => match cArg D m s, cArg D m x with | ⟨f⟩, ⟨g⟩ => ⟨fun _ t H k => appC sz bytes e (f t) (g t) H k (optVH (builtinV P T .append argTypes [f t, g t] H) k)⟩
    | _, _ => slowO P T D m (.call { callee := .builtin .append, args, argTypes })
  | { callee := .builtin b, args, argTypes } => match cArgs D m args.toList with | ⟨ga⟩ => ⟨fun _ t H k => optVH (builtinV P T b argTypes (ga t) H) k⟩
  | c => slowO P T D m (.call c)

/-- Where a field of a value lies: whether it is a row; from where on; how many cells. -/
def fieldT (T : TT) (s : TypeId) (f : Nat) : Option (Bool × Nat × Nat) :=
  match T.und s with
  | some (.struct fs) =>
    match fs[f]? with
    | some fd =>
      match aggT T fd.type with
      | some true => match szT T fd.type with | some n => some (true, fd.offset, n) | none => none
      | some false => some (false, fd.offset, 1)
      | none => none
    | none => none
  | _ => none

noncomputable def cOpn (P : Program) (T : TT) (D m : Nat) (o : Op) : Ob D :=
  match o with
  | .move x => match cArg D m x with | ⟨f⟩ => ⟨fun _ t H k => k (f t) H⟩
  | .assign x => match cArg D m x with | ⟨f⟩ => ⟨fun _ t H k => k (f t) H⟩
  | .pick c a b => match cArg D m c, cArg D m a, cArg D m b with | ⟨f⟩, ⟨g⟩, ⟨h⟩ => ⟨fun _ t H k => vBool (f t) (fun x => iteC x (k (g t) H) (k (h t) H))⟩
  | .nilCheck x => match cArg D m x with | ⟨f⟩ => ⟨fun _ t H k => vPtrA (f t) (k (f t) H)⟩
  | .extract x i => match cArg D m x with | ⟨f⟩ => ⟨fun _ t H k => vTup (f t) (fun c => cellK c.toList i (fun v => k v H))⟩
  | .fieldAddr s x f =>
    match offT T s f, cArg D m x with
    | some off, ⟨g⟩ => ⟨fun _ t H k => vPtr (g t) (fun b o => k (ptr b (Nat.add o off)) H)⟩
    | none, _ => slowO P T D m (.fieldAddr s x f)
  | .indexAddr ty x i =>
    match rowT T ty, cArg D m x, cArg D m i with
    | some (.array n sz), ⟨f⟩, ⟨g⟩ => ⟨fun _ t H k => vPtr (f t) (fun b o => vNat (g t) (fun _ j => iteC (Nat.blt j n) (k (ptr b (Nat.add o (Nat.mul j sz))) H) none) none)⟩
    | some (.slice sz), ⟨f⟩, ⟨g⟩ => ⟨fun _ t H k => vSl (f t) (fun b o n => vNat (g t) (fun _ j => iteC (Nat.blt j n) (k (ptr b (Nat.add o (Nat.mul j sz))) H) none) none)⟩
    | none, _, _ => slowO P T D m (.indexAddr ty x i)
  | .load ty a =>
    match aggT T ty, cArg D m a with
    | some false, ⟨f⟩ => ⟨fun _ t H k => vPtr (f t) (fun b o => cellsAt H b (fun c _ => cellK c o (fun v => k v H)))⟩
    | some true, ⟨f⟩ =>
      match szT T ty with
      | some n => ⟨fun _ t H k => vPtr (f t) (fun b o => cellsAt H b (fun c _ => segC o n c (fun vs => k (.agg vs.toArray) H)))⟩
      | none => failO D
    | none, _ => failO D
  | .store ty a x =>
    match szT T ty, cArg D m a, cArg D m x with
    | some 1, ⟨f⟩, ⟨g⟩ => ⟨fun _ t H k => isOne (g t) (vPtr (f t) (fun b o => cellsAt H b (fun c e => setC (g t) o c (fun c' => setH (.cells c' e) b H (fun H' => k undef H'))))) (optH (storeV T H ty (f t) (g t)) (fun H' => k undef H'))⟩
    | some n, ⟨f⟩, ⟨g⟩ => ⟨fun _ t H k => vAgg (g t) (fun vs => allN vs n (vPtr (f t) (fun b o => cellsAt H b (fun c e => rowC vs o c (fun c' => setH (.cells c' e) b H (fun H' => k undef H')))))) (optH (storeV T H ty (f t) (g t)) (fun H' => k undef H'))⟩
    | none, _, _ => failO D
  | .alloc e =>
    match zeroT T e with
    | some z => ⟨fun _ _ H k => allocC (.cells z e) H k⟩
    | none => failO D
  | .box e x => match cArg D m x with | ⟨f⟩ => ⟨fun _ t H k => isOne (f t) (allocC (.cells [f t] e) H k) (vAgg (f t) (fun c => all1C c (allocC (.cells c e) H k)) none)⟩
  | .build ty ps =>
    match zeroT T ty, placeT T ty with
    | some z, some pl => match cFill D m pl ps.toList with | ⟨f⟩ => ⟨fun _ t H k => f t z (fun c => k (.agg c.toArray) H)⟩
    | _, _ => failO D
  | .buildSlice ty n ps =>
    match T.und ty with
    | some (.slice e) =>
      match szT T e, zeroT T e with
      | some sz, some z =>
        if 0 < sz ∧ z.length = sz ∧ n * sz ≤ 2 ^ 24 then
          match cFill D m (fun i => some (i * sz, sz)) ps.toList with
          | ⟨f⟩ => ⟨fun _ t H k => f t (repeatL n z) (fun c => allocC (.cells c e) H (fun _ H' => k (.slice (some ⟨H.next, 0, none⟩) n (2 * n + 1)) H'))⟩
        else failO D
      | _, _ => failO D
    | _ => failO D
  | .binOp op ty x y _ => cBin P T D m op ty x y
  | .unOp .not _ x => match cArg D m x with | ⟨f⟩ => ⟨fun _ t H k => vBool (f t) (fun b => k (.bool (Bool.rec true false b)) H)⟩
  | .unOp op _ x => match cArg D m x with | ⟨f⟩ => ⟨fun _ t H k => optV (unV P op (f t)) (fun v => k v H)⟩
  | .convert s d x =>
    match T.und s, T.und d, cArg D m x with
    | some _, some (.int kd), ⟨f⟩ => match limN kd with | lim => ⟨fun _ t H k => vNat (f t) (fun _ n => iteC (Nat.blt n lim) (k (.int kd (.ofNat n)) H) (optVH (convV T s d (f t) H) k)) (optVH (convV T s d (f t) H) k)⟩
    | _, _, ⟨f⟩ => ⟨fun _ t H k => optVH (convV T s d (f t) H) k⟩
  | .slice ty x lo hi mx =>
    match rowT T ty, cArg D m x, cOpt D m lo, cOpt D m hi, cOpt D m mx, cBo D m lo, cBo D m hi, cBo D m mx with
    | some (.slice sz), ⟨f⟩, ⟨g⟩, ⟨h⟩, ⟨i⟩, ⟨bl⟩, ⟨bh⟩, ⟨bm⟩ =>
      if mx.isSome && hi.isNone then failO D else
      ⟨fun _ t H k => slC sz f bl bh bm mx.isSome (fun t => optV (sliceV T ty (f t) (g t) (h t) (i t)) (fun v => k v H)) t (fun v => k v H)⟩
    | some (.array n sz), ⟨f⟩, _, _, _, ⟨bl⟩, ⟨bh⟩, ⟨bm⟩ => if mx.isSome && hi.isNone then failO D else ⟨fun _ t H k => arrC n sz f bl bh bm t (fun v => k v H)⟩
    | none, ⟨f⟩, ⟨g⟩, ⟨h⟩, ⟨i⟩, _, _, _ => ⟨fun _ t H k => optV (sliceV T ty (f t) (g t) (h t) (i t)) (fun v => k v H)⟩
  | .field s x f =>
    match fieldT T s f, cArg D m x with
    | some (false, off, _), ⟨g⟩ => ⟨fun _ t H k => vAgg (g t) (fun c => cellK c off (fun v => k v H)) none⟩
    | some (true, off, n), ⟨g⟩ => ⟨fun _ t H k => vAgg (g t) (fun c => segC off n c (fun vs => k (.agg vs.toArray) H)) none⟩
    | none, _ => failO D
  | .index ty x i =>
    match T.und ty, cArg D m x, cArg D m i with
    | some (.array n e), ⟨f⟩, ⟨g⟩ =>
      match aggT T e, szT T e with
      | some false, some sz => ⟨fun _ t H k => vAgg (f t) (fun c => vNat (g t) (fun _ j => iteC (Nat.blt j n) (cellK c (Nat.mul j sz) (fun v => k v H)) none) none) none⟩
      | _, _ => ⟨fun _ t H k => optV (indexV T ty (f t) (g t)) (fun v => k v H)⟩
    | _, ⟨f⟩, ⟨g⟩ => ⟨fun _ t H k => optV (indexV T ty (f t) (g t)) (fun v => k v H)⟩
  | .call c => cCall P T D m c
  | o => slowO P T D m o

section
variable {P : Program} {T : TT} {X : Prims} {D m : Nat}

theorem slowO_ok {o : Op} (h : isCallV o = false) : ObOK P T X m (slowO P T D m o) o := by
  intro rc _ t H k r hr
  obtain ⟨v, H', h1, h2⟩ := slowF_eq hr
  rw [envN_eq] at h1
  exact ⟨0, v, H', by rw [plain_oper h]; exact h1, h2⟩

theorem ok_of {o : Op} (h : isCallV o = false) {c : Ob D} (hc : ∀ rc t H k r, c.run rc t H k = some r → ∃ v H', evOp P T (envL (toL m t)) o H = some (v, H') ∧ k v H' = some r) : ObOK P T X m c o := by
  intro rc _ t H k r hr
  obtain ⟨v, H', h1, h2⟩ := hc rc t H k r hr
  exact ⟨0, v, H', by rw [plain_oper h]; exact h1, h2⟩

theorem cmpC_eq {op : BinOp} {c : CmpOp} (hc : CmpOp.of op = some c) (xo yo : Operand) (ty : TypeId) {x y : Value} {k : Value → Ans} {s : Ans} {r : Value × AH} (h : cmpC c.fI x y k s = some r) :
    (∃ v, binV P T op ty xo yo x y = some v ∧ k v = some r) ∨ s = some r := by
  unfold cmpC at h
  rcases vInt_eq h with ⟨k1, a, rfl, h1⟩ | h
  · clear h
    rcases vInt_eq (v := y) h1 with ⟨k2, b, rfl, h2⟩ | h
    · rcases iteC_eq h2 with ⟨hk, h⟩ | ⟨_, h⟩
      · have := kindN_inj hk; subst this
        exact .inl ⟨_, cmpI_ok hc P T ty xo yo k1 a b, h⟩
      · exact .inr h
    · exact .inr h
  · exact .inr h
theorem arC_eq {op : BinOp} {c : ArOp} (hc : ArOp.of op = some c) (xo yo : Operand) (ty : TypeId) {x y : Value} {k : Value → Ans} {s : Ans} {r : Value × AH} (h : arC c.f c.ok x y k s = some r) :
    (∃ v, binV P T op ty xo yo x y = some v ∧ k v = some r) ∨ s = some r := by
  unfold arC at h
  rcases vNat_eq h with ⟨k1, a, rfl, h1⟩ | h
  · clear h
    rcases vNat_eq (v := y) h1 with ⟨k2, b, rfl, h2⟩ | h
    · rcases iteC_eq h2 with ⟨hk, h⟩ | ⟨_, h⟩
      · simp only [Bool.and_eq_true] at hk
        have := kindN_inj hk.1; subst this
        exact .inl ⟨_, ar_ok hc P T ty xo yo k1 a b hk.2, h⟩
      · exact .inr h
    · exact .inr h
  · exact .inr h
theorem shC_eq {op : BinOp} {c : ShOp} (hc : ShOp.of op = some c) (xo yo : Operand) (ty : TypeId) {x y : Value} {k : Value → Ans} {s : Ans} {r : Value × AH} (h : shC c.f x y k s = some r) :
    (∃ v, binV P T op ty xo yo x y = some v ∧ k v = some r) ∨ s = some r := by
  unfold shC at h
  rcases vNat_eq h with ⟨k1, a, rfl, h1⟩ | h
  · clear h
    rcases vNat_eq (v := y) h1 with ⟨k2, b, rfl, h2⟩ | h
    · rcases iteC_eq h2 with ⟨hk, h⟩ | ⟨_, h⟩
      · simp only [Bool.and_eq_true] at hk
        exact .inl ⟨_, sh_ok hc P T ty xo yo k1 k2 a b (Nat.le_of_ble_eq_true hk.1) (blt_lt hk.2), h⟩
      · exact .inr h
    · exact .inr h
  · exact .inr h

end
end Go.Fv
