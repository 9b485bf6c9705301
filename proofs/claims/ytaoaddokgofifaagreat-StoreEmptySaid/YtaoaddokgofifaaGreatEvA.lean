/- An evaluator for the part of the program's language that this program uses: one order of evaluation, an abstract heap without spare capacity. What it answers, every run of the model answers (shown in the texts behind this one). -/
import Derived.OrdersIn
import Derived.RangeFuncRecord
import Derived.RangeFuncCalls
namespace Go.Ev

/-! ### A table by numbers -/
inductive Tr (α : Type) where
  | leaf
  | node (l : Tr α) (v : Option α) (r : Tr α)

namespace Tr
variable {α : Type}

def bitsOf : Nat → Nat → List Bool
  | 0, _ => []
  | f + 1, n => if n = 0 then [] else (n % 2 == 1) :: bitsOf f (n / 2)

def find : Tr α → List Bool → Option α
  | .leaf, _ => none
  | .node _ v _, [] => v
  | .node l _ _, false :: bs => find l bs
  | .node _ _ r, true :: bs => find r bs

def put (o : Option α) : List Bool → Tr α → Tr α
  | [], .leaf => .node .leaf o .leaf
  | [], .node l _ r => .node l o r
  | false :: bs, .leaf => .node (put o bs .leaf) none .leaf
  | true :: bs, .leaf => .node .leaf none (put o bs .leaf)
  | false :: bs, .node l v r => .node (put o bs l) v r
  | true :: bs, .node l v r => .node l v (put o bs r)

def get (t : Tr α) (n : Nat) : Option α := t.find (bitsOf n n)
def set (t : Tr α) (n : Nat) (o : Option α) : Tr α := put o (bitsOf n n) t

theorem find_put_same (o : Option α) : ∀ (bs : List Bool) (t : Tr α), (put o bs t).find bs = o
  | [], .leaf => rfl
  | [], .node _ _ _ => rfl
  | false :: bs, .leaf => find_put_same o bs .leaf
  | true :: bs, .leaf => find_put_same o bs .leaf
  | false :: bs, .node l _ _ => find_put_same o bs l
  | true :: bs, .node _ _ r => find_put_same o bs r

theorem find_leaf (bs : List Bool) : (Tr.leaf : Tr α).find bs = none := by cases bs <;> rfl

theorem find_put_other (o : Option α) : ∀ (bs cs : List Bool) (t : Tr α), bs ≠ cs → (put o bs t).find cs = t.find cs
  | [], [], _, h => absurd rfl h
  | [], false :: cs, .leaf, _ => by simp [put, find]
  | [], true :: cs, .leaf, _ => by simp [put, find]
  | [], false :: cs, .node _ _ _, _ => rfl
  | [], true :: cs, .node _ _ _, _ => rfl
  | false :: bs, [], .leaf, _ => rfl
  | true :: bs, [], .leaf, _ => rfl
  | false :: bs, [], .node _ _ _, _ => rfl
  | true :: bs, [], .node _ _ _, _ => rfl
  | false :: bs, true :: cs, .leaf, _ => by simp [put, find]
  | true :: bs, false :: cs, .leaf, _ => by simp [put, find]
  | false :: bs, true :: cs, .node _ _ _, _ => rfl
  | true :: bs, false :: cs, .node _ _ _, _ => rfl
  | false :: bs, false :: cs, .leaf, h => by
    have := find_put_other o bs cs .leaf (fun e => h (by rw [e]))
    simpa [put, find, find_leaf] using this
  | true :: bs, true :: cs, .leaf, h => by
    have := find_put_other o bs cs .leaf (fun e => h (by rw [e]))
    simpa [put, find, find_leaf] using this
  | false :: bs, false :: cs, .node l _ _, h => find_put_other o bs cs l (fun e => h (by rw [e]))
  | true :: bs, true :: cs, .node _ _ r, h => find_put_other o bs cs r (fun e => h (by rw [e]))

theorem bitsOf_inj : ∀ (f g n m : Nat), n ≤ f → m ≤ g → bitsOf f n = bitsOf g m → n = m
  | 0, 0, n, m, hn, hm, _ => by omega
  | 0, g + 1, n, m, hn, hm, h => by
    have : n = 0 := by omega
    subst this
    simp only [bitsOf] at h
    split at h
    · omega
    · cases h
  | f + 1, 0, n, m, hn, hm, h => by
    have : m = 0 := by omega
    subst this
    simp only [bitsOf] at h
    split at h
    · omega
    · cases h
  | f + 1, g + 1, n, m, hn, hm, h => by
    simp only [bitsOf] at h
    split at h <;> split at h
    · omega
    · cases h
    · cases h
    · injection h with h1 h2
      have ih := bitsOf_inj f g (n / 2) (m / 2) (by omega) (by omega) h2
      have h1' : (n % 2 = 1) ↔ (m % 2 = 1) := by
        have := congrArg (· = true) h1
        simpa using this
      omega

theorem bits_inj {n m : Nat} (h : bitsOf n n = bitsOf m m) : n = m := bitsOf_inj n m n m (Nat.le_refl _) (Nat.le_refl _) h

theorem get_set_same (t : Tr α) (n : Nat) (o : Option α) : (t.set n o).get n = o := find_put_same o _ t
theorem get_set_other (t : Tr α) {n m : Nat} (o : Option α) (h : n ≠ m) : (t.set n o).get m = t.get m :=
  find_put_other o _ _ t (fun e => h (bits_inj e))
theorem put_put (o o' : Option α) : ∀ (bs : List Bool) (t : Tr α), put o bs (put o' bs t) = put o bs t
  | [], .leaf => rfl
  | [], .node _ _ _ => rfl
  | false :: bs, .leaf => by simp [put, put_put o o' bs]
  | true :: bs, .leaf => by simp [put, put_put o o' bs]
  | false :: bs, .node l _ _ => by simp [put, put_put o o' bs]
  | true :: bs, .node _ _ r => by simp [put, put_put o o' bs]
theorem set_set (t : Tr α) (n : Nat) (o o' : Option α) : (t.set n o').set n o = t.set n o := put_put o o' _ t
theorem get_leaf (n : Nat) : (Tr.leaf : Tr α).get n = none := find_leaf _
end Tr

/-! ### Abstract memory -/
inductive AObj where
  | cells (c : List Value) (elem : TypeId)
  | map (es : List MapEntry) (clock : Nat)
  | chan (cap : Nat) (buf : List Value) (sent received : Nat)
  | loop (st : LoopState) (pend : Option Code) (tmps : List Value) (ps : Array Tmp) (assign body : Code)

/-- Blocks by their numbers; what is not there is not laid yet, or given up. -/
structure AH where
  tr : Tr AObj
  next : Nat

def AH.get (H : AH) (k : Nat) : Option AObj := H.tr.get k
def AH.set (H : AH) (k : Nat) (o : AObj) : AH := { H with tr := H.tr.set k (some o) }
def AH.kill (H : AH) (k : Nat) : AH := { H with tr := H.tr.set k none }
def AH.alloc (H : AH) (o : AObj) : AH := ⟨H.tr.set H.next (some o), H.next + 1⟩

section
variable (H : AH) (o : AObj)
@[simp] theorem AH.next_set (k : Nat) : (H.set k o).next = H.next := rfl
@[simp] theorem AH.next_kill (k : Nat) : (H.kill k).next = H.next := rfl
@[simp] theorem AH.next_alloc : (H.alloc o).next = H.next + 1 := rfl
theorem AH.get_set_same (k : Nat) : (H.set k o).get k = some o := Tr.get_set_same ..
theorem AH.get_set_other {k j : Nat} (h : k ≠ j) : (H.set k o).get j = H.get j := Tr.get_set_other _ _ h
theorem AH.get_kill_same (k : Nat) : (H.kill k).get k = none := Tr.get_set_same ..
theorem AH.get_kill_other {k j : Nat} (h : k ≠ j) : (H.kill k).get j = H.get j := Tr.get_set_other _ _ h
theorem AH.get_alloc_same : (H.alloc o).get H.next = some o := Tr.get_set_same ..
theorem AH.get_alloc_other {j : Nat} (h : j ≠ H.next) : (H.alloc o).get j = H.get j := Tr.get_set_other _ _ (Ne.symm h)
end

/-! ### The tables -/
structure TT where
  und : TypeId → Option TypeDesc
  inf : TypeId → Option TypeInfo
  fn : FuncId → Option Func

/-- What the tables say is the program's. -/
structure TT.Ok (T : TT) (P : Program) : Prop where
  und : ∀ t d, T.und t = some d → P.underlying t = some d
  inf : ∀ t i, T.inf t = some i → P.info? t = some i
  fn : ∀ f x, T.fn f = some x → P.funcs[f]? = some x
  plain : ∀ f x, T.fn f = some x → (x.name == "runtime.NumGoroutine") = false
  body : ∀ f x, T.fn f = some x → x.body.isNone = false

/-! ### Values -/
/-- A plain scalar: no address in it. -/
def flat1 : Value → Bool
  | .bool _ | .int _ _ | .string _ => true
  | _ => false

def flatV : Value → Bool
  | .agg cs => cs.toList.all flat1
  | v => flat1 v

/-- A scalar without an address: the zero values. -/
def closed1 : Value → Bool
  | .bool _ | .int _ _ | .string _ | .pointer none | .slice none 0 0 | .map none | .chan none | .nilFunc | .nilIface => true
  | _ => false

def one1 : Value → Bool
  | .agg _ | .tuple _ => false
  | _ => true

/-- What a calculation comes to that touches neither memory nor the tape. -/
def pureE {α : Type} (P : Program) : Sem α → Option α
  | .pure a => some a
  | .program k => pureE P (k P)
  | _ => none

def nat1 (k : Nat) : Value := .int .i64 k

def ptr (b o : Nat) : Value := .pointer (some ⟨b, o, none⟩)

/-! ### Operations -/
def aggT (T : TT) (t : TypeId) : Option Bool :=
  match T.und t with
  | some (.struct _) => some true
  | some (.array _ _) => some true
  | some _ => some false
  | none => none

def szT (T : TT) (t : TypeId) : Option Nat :=
  match T.inf t with
  | some i => some i.size
  | none => none

def zeroT (T : TT) (t : TypeId) : Option (List Value) :=
  match T.inf t with
  | some i =>
    match i.zero with
    | some z => if z.cells.toList.all closed1 then some z.cells.toList else none
    | none => none
  | none => none

def setMany : List Value → Nat → List Value → List Value
  | c, _, [] => c
  | c, o, v :: vs => setMany (c.set o v) (o + 1) vs

def loadV (T : TT) (H : AH) (t : TypeId) (a : Value) : Option Value :=
  match a with
  | .pointer (some ⟨b, o, none⟩) =>
    match H.get b with
    | some (.cells c _) =>
      match aggT T t with
      | some true =>
        match szT T t with
        | some n => if o + n ≤ c.length then some (.agg ((c.drop o).take n).toArray) else none
        | none => none
      | some false => c[o]?
      | none => none
    | _ => none
  | _ => none

def storeV (T : TT) (H : AH) (t : TypeId) (a v : Value) : Option AH :=
  match a with
  | .pointer (some ⟨b, o, none⟩) =>
    match H.get b with
    | some (.cells c e) =>
      match szT T t with
      | some n =>
        if v.cells.toList.length = n ∧ o + n ≤ c.length ∧ v.cells.toList.all one1 = true then
          some (H.set b (.cells (setMany c o v.cells.toList) e)) else none
      | none => none
    | _ => none
  | _ => none

/-- Parts are laid into a row of cells. -/
def fillV (place : Nat → Option (Nat × Nat)) : List (Nat × Value) → List Value → Option (List Value)
  | [], c => some c
  | (i, v) :: rest, c =>
    match place i with
    | some (o, n) =>
      if v.cells.toList.length = n ∧ o + n ≤ c.length ∧ v.cells.toList.all one1 = true then fillV place rest (setMany c o v.cells.toList) else none
    | none => none

def fieldPl (T : TT) (fs : Array Field) (i : Nat) : Option (Nat × Nat) :=
  match fs[i]? with
  | some f =>
    match szT T f.type with
    | some n => some (f.offset, n)
    | none => none
  | none => none

def buildV (T : TT) (t : TypeId) (parts : List (Nat × Value)) : Option Value :=
  match zeroT T t with
  | some z =>
    match T.und t with
    | some (.struct fs) => if fs.toList.all (fun f => (szT T f.type).isSome) then (fillV (fieldPl T fs) parts z).map fun c => .agg c.toArray else none
    | some (.array _ e) =>
      match szT T e with
      | some n => (fillV (fun i => some (i * n, n)) parts z).map fun c => .agg c.toArray
      | none => none
    | _ => none
  | none => none

/-- n copies of some cells. -/
def repeatL : Nat → List Value → List Value
  | 0, _ => []
  | n + 1, z => z ++ repeatL n z

def partV (T : TT) (t : TypeId) (c : List Value) (o : Nat) : Option Value :=
  match aggT T t with
  | some true =>
    match szT T t with
    | some n => if o + n ≤ c.length then some (.agg ((c.drop o).take n).toArray) else none
    | none => none
  | some false => c[o]?
  | none => none

/-- A bound of a slice expression: a number from 0 to 'most'. -/
def bound (x : Value) (most : Nat) : Option Nat :=
  match x with
  | .int _ i => if 0 ≤ i ∧ i ≤ most then some i.toNat else none
  | _ => none

def bounds (len cap : Nat) (lo hi mx : Option Value) : Option (Nat × Nat × Nat) :=
  match (match mx with | some v => bound v cap | none => some cap) with
  | some m =>
    match (match hi with | some v => bound v (if mx.isSome then m else cap) | none => if mx.isSome then none else some len) with
    | some h =>
      match (match lo with | some v => bound v h | none => some 0) with
      | some l => some (l, h, m)
      | none => none
    | none => none
  | none => none

/-- The capacity of a slice: '2 * n + 1' stands for n; '2 * z' for 'at least the length' at elements of z cells. -/
def sliceV (T : TT) (t : TypeId) (x : Value) (lo hi mx : Option Value) : Option Value :=
  match T.und t with
  | some .string =>
    match x with
    | .string s =>
      match mx, bounds s.size s.size lo hi none with
      | none, some (l, h, _) => some (.string (s.extract l h))
      | _, _ => none
    | _ => none
  | some (.slice e) =>
    match szT T e with
    | some sz =>
      match x with
      | .slice none n _ =>
        if n = 0 then
          match bounds 0 0 lo hi mx with
          | some _ => some (.slice none 0 0)
          | none => none
        else none
      | .slice (some ⟨b, o, none⟩) n c =>
        if c % 2 = 1 then
          match bounds n (c / 2) lo hi mx with
          | some (l, h, m) => some (.slice (some ⟨b, if m = l then o else o + l * sz, none⟩) (h - l) (2 * (m - l) + 1))
          | none => none
        else if c = 2 * sz then
          match bounds n n lo hi mx with
          | some (l, h, m) =>
            if mx.isSome then some (.slice (some ⟨b, if m = l then o else o + l * sz, none⟩) (h - l) (2 * (m - l) + 1))
            else some (.slice (some ⟨b, o + l * sz, none⟩) (h - l) c)
          | none => none
        else none
      | _ => none
    | none => none
  | some (.array n e) =>
    match szT T e with
    | some sz =>
      match x with
      | .pointer (some ⟨b, o, none⟩) =>
        match bounds n n lo hi mx with
        | some (l, h, m) => some (.slice (some ⟨b, if m = l then o else o + l * sz, none⟩) (h - l) (2 * (m - l) + 1))
        | none => none
      | _ => none
    | none => none
  | _ => none

def fieldAddrV (T : TT) (s : TypeId) (x : Value) (f : Nat) : Option Value :=
  match x, T.und s with
  | .pointer (some ⟨b, o, none⟩), some (.struct fs) =>
    match fs[f]? with
    | some fd =>
      match szT T fd.type with
      | some (_ + 1) => some (ptr b (o + fd.offset))
      | _ => none
    | none => none
  | _, _ => none

def fieldV (T : TT) (s : TypeId) (x : Value) (f : Nat) : Option Value :=
  match x, T.und s with
  | .agg cs, some (.struct fs) =>
    match fs[f]? with
    | some fd => partV T fd.type cs.toList fd.offset
    | none => none
  | _, _ => none

def indexAddrV (T : TT) (t : TypeId) (x ix : Value) : Option Value :=
  match ix with
  | .int _ i =>
    match T.und t, x with
    | some (.array n e), .pointer (some ⟨b, o, none⟩) =>
      if 0 ≤ i ∧ i < n then
        match szT T e with
        | some sz => some (ptr b (o + i.toNat * sz))
        | none => none
      else none
    | some (.slice e), .slice (some ⟨b, o, none⟩) n _ =>
      if 0 ≤ i ∧ i < n then
        match szT T e with
        | some sz => some (ptr b (o + i.toNat * sz))
        | none => none
      else none
    | _, _ => none
  | _ => none

def indexV (T : TT) (t : TypeId) (x ix : Value) : Option Value :=
  match ix with
  | .int _ i =>
    match T.und t, x with
    | some (.array n e), .agg cs =>
      if 0 ≤ i ∧ i < n then
        match szT T e with
        | some sz => partV T e cs.toList (i.toNat * sz)
        | none => none
      else none
    | some .string, .string s =>
      if 0 ≤ i then
        match s[i.toNat]? with
        | some b => some (.int .u8 b.toNat)
        | none => none
      else none
    | _, _ => none
  | _ => none

/-- Equality with nil. -/
def nilEq : Value → Value → Option Bool
  | .pointer a, .pointer b => if a.isNone || b.isNone then some (a.isNone && b.isNone) else none
  | .slice a _ _, .slice b _ _ => if a.isNone || b.isNone then some (a.isNone && b.isNone) else none
  | .map a, .map b => if a.isNone || b.isNone then some (a.isNone && b.isNone) else none
  | .nilFunc, .nilFunc => some true
  | .nilFunc, .func _ _ _ => some false
  | .func _ _ _, .nilFunc => some false
  | _, _ => none

def nilKind : TypeDesc → Value → Bool
  | .pointer _, .pointer _ => true
  | .slice _, .slice _ _ _ => true
  | .map _ _, .map _ => true
  | .func _ _ _, .func _ _ _ => true
  | .func _ _ _, .nilFunc => true
  | _, _ => false

def binV (P : Program) (T : TT) (op : BinOp) (t : TypeId) (xo yo : Operand) (x y : Value) : Option Value :=
  if flatV x && flatV y then
    match pureE P (do eqGuard op t xo yo x y; binOp op t x y) with
    | some v => if flat1 v then some v else none
    | none => none
  else
    match T.und t with
    | some d =>
      if nilKind d x && nilKind d y then
        match op, nilEq x y with
        | .eql, some b => some (.bool b)
        | .neq, some b => some (.bool (!b))
        | _, _ => none
      else none
    | none => none

def unV (P : Program) (op : UnOp) (x : Value) : Option Value :=
  if flat1 x then
    match pureE P (Op.unary op x) with
    | some v => if flat1 v then some v else none
    | none => none
  else none

def keysFlat (es : List MapEntry) : Bool := es.all fun e => flatV e.key

/-- Where a key is among a map's entries. -/
def findV (P : Program) (kt : TypeId) (empty : Bool) (k : Value) (es : List MapEntry) : Option (Option (Nat × Value)) :=
  if flatV k && keysFlat es then
    pureE P (do Instr.checkKey empty 10000 kt k; Instr.findKey kt k es)
  else none

def bytesV : List Value → Option (List UInt8)
  | [] => some []
  | .int .u8 n :: r => (bytesV r).map fun l => UInt8.ofNat n.toNat :: l
  | _ => none

def rowAt (H : AH) (a : Addr) (n : Nat) : Option (List Value) :=
  match a with
  | ⟨b, o, none⟩ =>
    match H.get b with
    | some (.cells c _) => if o + n ≤ c.length then some ((c.drop o).take n) else none
    | _ => none
  | _ => none

/-- The cells that are appended, or copied. -/
def sourceV (H : AH) (sz n : Nat) (x : Value) : Option (List Value) :=
  match x with
  | .slice none _ _ => if n = 0 then some [] else none
  | .slice (some a) _ _ => rowAt H a (n * sz)
  | .string s => if sz = 1 then some (((s.extract 0 n).data.toList.map fun b => Value.int .u8 b.toNat)) else none
  | _ => none

def lenV : Value → Option Nat
  | .slice none n _ => if n = 0 then some 0 else none
  | .slice (some _) n _ => some n
  | .string s => some s.size
  | _ => none

/-- The most bytes of a slice that this evaluator makes. -/
def mostBytes : Nat := 2 ^ 46

def intDesc : TypeDesc → Bool
  | .int _ => true
  | _ => false

/-- New cells go behind a slice: where there may be room, the old block is given up. -/
def appendTo (i : TypeInfo) (e : TypeId) (s : Value) (len n : Nat) (new : List Value) (H : AH) : Option (Value × AH) :=
  match s with
  | .slice none _ _ =>
    if n = 0 then some (.slice none 0 0, H)
    else some (.slice (some ⟨H.next, 0, none⟩) n (2 * i.size), H.alloc (.cells new e))
  | .slice (some ⟨b, o, none⟩) _ c =>
    if c % 2 = 1 then
      if len + n ≤ c / 2 then
        match H.get b with
        | some (.cells cs e') =>
          if o + (len + n) * i.size ≤ cs.length then
            some (.slice (some ⟨b, o, none⟩) (len + n) c, H.set b (.cells (setMany cs (o + len * i.size) new) e'))
          else none
        | _ => none
      else
        match rowAt H ⟨b, o, none⟩ (len * i.size) with
        | some old => some (.slice (some ⟨H.next, 0, none⟩) (len + n) (2 * i.size), H.alloc (.cells (old ++ new) e))
        | none => none
    else if c = 2 * i.size then
      if n = 0 then some (s, H) else
      match H.get b with
      | some (.cells cs e') =>
        if e' = e ∧ o + len * i.size ≤ cs.length then
          some (.slice (some ⟨H.next, 0, none⟩) (len + n) c, (H.kill b).alloc (.cells ((cs.drop o).take (len * i.size) ++ new) e))
        else none
      | _ => none
    else none
  | _ => none

def appendV (T : TT) (ts : Array TypeId) (args : List Value) (H : AH) : Option (Value × AH) :=
  match ts[0]?, args with
  | some st, [s, x] =>
    match T.und st with
    | some (.slice e) =>
      match T.inf e, lenV x, lenV s, (ts[1]?).bind T.und with
      | some i, some n, some len, some xd =>
        if intDesc xd = false ∧ (len + n) * 2 * (i.bytes + 1) + 1024 * (i.bytes + 1) ≤ mostBytes ∧ (zeroT T e).isSome = true ∧ (zeroT T e).map List.length = some i.size then
          match sourceV H i.size n x with
          | some new => if new.all one1 = true ∧ new.length = n * i.size then appendTo i e s len n new H else none
          | none => none
        else none
      | _, _, _, _ => none
    | _ => none
  | _, _ => none

def copyV (T : TT) (ts : Array TypeId) (args : List Value) (H : AH) : Option (Value × AH) :=
  match ts[0]?, args with
  | some dt, [d, x] =>
    match T.und dt with
    | some (.slice e) =>
      match T.inf e, lenV x, d with
      | some i, some m, .slice (some ⟨b, o, none⟩) dl _ =>
        match sourceV H i.size (Nat.min m dl) x, H.get b with
        | some new, some (.cells cs e') =>
          if new.all one1 ∧ o + new.length ≤ cs.length then
            some (nat1 (Nat.min m dl), H.set b (.cells (setMany cs o new) e'))
          else none
        | _, _ => none
      | some _, some _, .slice none 0 _ => some (nat1 0, H)
      | _, _, _ => none
    | _ => none
  | _, _ => none

def deleteV (P : Program) (T : TT) (ts : Array TypeId) (args : List Value) (H : AH) : Option (Value × AH) :=
  match ts[0]?, args with
  | some mt, [.map (some r), k] =>
    match T.und mt, H.get r with
    | some (.map kt _), some (.map es cl) =>
      match findV P kt es.isEmpty k es with
      | some (some (i, _)) => some (.tuple #[], H.set r (.map (es.eraseIdx i) cl))
      | some none => some (.tuple #[], H.set r (.map es cl))
      | none => none
    | _, _ => none
  | _, _ => none

def lenB (T : TT) (ts : Array TypeId) (args : List Value) (H : AH) : Option Value :=
  match ts[0]?, args with
  | some t, [x] =>
    match T.und t, x with
    | some .string, .string s => some (nat1 s.size)
    | some (.slice _), .slice _ n _ => some (nat1 n)
    | some (.array n _), _ => some (nat1 n)
    | some (.map _ _), .map none => some (nat1 0)
    | some (.map _ _), .map (some r) =>
      match H.get r with
      | some (.map es _) => some (nat1 es.length)
      | _ => none
    | some (.chan _ _), .chan (some r) =>
      match H.get r with
      | some (.chan _ buf _ _) => some (nat1 buf.length)
      | _ => none
    | _, _ => none
  | _, _ => none

def convV (T : TT) (src dst : TypeId) (x : Value) (H : AH) : Option (Value × AH) :=
  match T.und src, T.und dst, x with
  | some _, some (.int k), .int _ n => some (.int k (k.wrap n), H)
  | some _, some .string, .string s => some (.string s, H)
  | some .string, some (.slice e), .string s =>
    match T.und e with
    | some (.int .u8) => some (.slice (some ⟨H.next, 0, none⟩) s.size 2, H.alloc (.cells (s.data.toList.map fun b => Value.int .u8 b.toNat) e))
    | _ => none
  | some (.slice e), some .string, .slice a n _ =>
    match T.und e with
    | some (.int .u8) =>
      match a with
      | none => if n = 0 then some (.string ⟨#[]⟩, H) else none
      | some a =>
        match rowAt H a n with
        | some c => (bytesV c).map fun l => (.string ⟨l.toArray⟩, H)
        | none => none
    | _ => none
  | _, _, _ => none

def max2V : Value → Value → Option Value
  | .int k x, .int k' y => if k = k' then some (.int k (if y > x then y else x)) else none
  | _, _ => none
def min2V : Value → Value → Option Value
  | .int k x, .int k' y => if k = k' then some (.int k (if y < x then y else x)) else none
  | _, _ => none
def foldV (f : Value → Value → Option Value) : Value → List Value → Option Value
  | x, [] => some x
  | x, y :: r => match f x y with | some z => foldV f z r | none => none
def manyV (f : Value → Value → Option Value) : List Value → Option Value
  | x :: y :: r => foldV f x (y :: r)
  | _ => none

def builtinV (P : Program) (T : TT) (b : Builtin) (ts : Array TypeId) (args : List Value) (H : AH) : Option (Value × AH) :=
  match b with
  | .len => (lenB T ts args H).map fun v => (v, H)
  | .append => appendV T ts args H
  | .copy => copyV T ts args H
  | .delete => deleteV P T ts args H
  | .max => (manyV max2V args).map fun v => (v, H)
  | .min => (manyV min2V args).map fun v => (v, H)
  | _ => none

/-- The value that an operation answers in a map. -/
def lookupV (P : Program) (T : TT) (t : TypeId) (m k : Value) (ok : Bool) (H : AH) : Option Value :=
  match T.und t, m with
  | some (.map kt et), .map (some r) =>
    match H.get r with
    | some (.map es _) =>
      match findV P kt es.isEmpty k es with
      | some (some (_, v)) => some (if ok then .tuple #[v, .bool true] else v)
      | some none =>
        match T.inf et with
        | some i =>
          match i.zero with
          | some z => if z.cells.toList.all closed1 then some (if ok then .tuple #[z, .bool false] else z) else none
          | none => none
        | none => none
      | none => none
    | _ => none
  | _, _ => none

def notTuple : Value → Bool
  | .tuple _ => false
  | _ => true

def mapUpdateV (P : Program) (T : TT) (t : TypeId) (m k v : Value) (H : AH) : Option AH :=
  if notTuple v then
  match T.und t, m with
  | some (.map kt _), .map (some r) =>
    match H.get r with
    | some (.map es cl) =>
      match findV P kt false k es with
      | some (some (i, _)) =>
        match es[i]? with
        | some e => if Instr.sameBits 10000 e.key k then some (H.set r (.map (es.set i { e with key := k, val := v }) cl)) else none
        | none => none
      | some none => some (H.set r (.map (es ++ [{ key := k, val := v, born := cl }]) (cl + 1)))
      | none => none
    | _ => none
  | _, _ => none
  else none

def mapEntryV (P : Program) (T : TT) (t : TypeId) (m k : Value) (H : AH) : Option (Value × AH) :=
  match T.und t, m with
  | some (.map kt et), .map (some r) =>
    match H.get r with
    | some (.map es cl) =>
      match findV P kt false k es with
      | some (some (i, v)) =>
        match es[i]? with
        | some e => if Instr.sameBits 10000 e.key k then some (.tuple #[v, nat1 e.born], H.set r (.map (es.set i { e with key := k }) cl)) else none
        | none => none
      | some none =>
        match T.inf et with
        | some ti =>
          match ti.zero with
          | some z => if z.cells.toList.all closed1 then some (.tuple #[z, nat1 cl], H.set r (.map (es ++ [{ key := k, val := z, born := cl }]) (cl + 1))) else none
          | none => none
        | none => none
      | none => none
    | _ => none
  | _, _ => none

def entryStoreV (m s v : Value) (H : AH) : Option AH :=
  if notTuple v then
  match m, s with
  | .map (some r), .int _ born =>
    match H.get r with
    | some (.map es cl) =>
      match es.findIdx? (fun e => (e.born : Int) == born) with
      | some i =>
        match es[i]? with
        | some e => some (H.set r (.map (es.set i { e with val := v }) cl))
        | none => none
      | none => none
    | _ => none
  | _, _ => none
  else none

def arrayAtV (T : TT) (arr : TypeId) (x : Value) : Option Value :=
  match T.und arr, x with
  | some (.array n _), .slice (some ⟨b, o, none⟩) len _ => if 0 < n ∧ n ≤ len then some (ptr b o) else none
  | _, _ => none

def evOp (P : Program) (T : TT) (ρ : Operand → Value) (o : Op) (H : AH) : Option (Value × AH) :=
  match o with
  | .move x => some (ρ x, H)
  | .assign x => some (ρ x, H)
  | .pick c a b => match ρ c with | .bool t => some (if t then ρ a else ρ b, H) | _ => none
  | .alloc e => match zeroT T e with | some z => some (ptr H.next 0, H.alloc (.cells z e)) | none => none
  | .box e x => if (ρ x).cells.toList.all one1 then some (ptr H.next 0, H.alloc (.cells (ρ x).cells.toList e)) else none
  | .build t ps => (buildV T t (ps.toList.map fun p => (p.1, ρ p.2))).map fun v => (v, H)
  | .buildSlice t n ps =>
    match T.und t with
    | some (.slice e) =>
      match szT T e, zeroT T e with
      | some sz, some z =>
        if 0 < sz ∧ z.length = sz ∧ n * sz ≤ 2 ^ 24 then
          match fillV (fun i => some (i * sz, sz)) (ps.toList.map fun p => (p.1, ρ p.2)) (repeatL n z) with
          | some c => some (.slice (some ⟨H.next, 0, none⟩) n (2 * n + 1), H.alloc (.cells c e))
          | none => none
        else none
      | _, _ => none
    | _ => none
  | .load t a => (loadV T H t (ρ a)).map fun v => (v, H)
  | .store t a x => (storeV T H t (ρ a) (ρ x)).map fun H' => (undef, H')
  | .nilCheck x => match ρ x with | .pointer (some a) => some (.pointer (some a), H) | _ => none
  | .binOp op t x y _ => (binV P T op t x y (ρ x) (ρ y)).map fun v => (v, H)
  | .unOp op _ x => (unV P op (ρ x)).map fun v => (v, H)
  | .convert s d x => convV T s d (ρ x) H
  | .sliceToArrayPointer t x => (arrayAtV T t (ρ x)).map fun v => (v, H)
  | .makeFunc (.func f) first cap =>
    if first.isEmpty ∧ cap.toList.all (fun x => match ρ x with | .pointer (some _) => true | _ => false) = true then some (.func (.func f) #[] (cap.map ρ), H) else none
  | .makeMap _ none => some (.map (some H.next), H.alloc (.map [] 0))
  | .makeChan t s =>
    match T.und t, ρ s with
    | some (.chan _ e), .int _ n =>
      match T.inf e with
      | some i => if 0 ≤ n ∧ n ≤ 4096 ∧ i.bytes ≤ 4096 then some (.chan (some H.next), H.alloc (.chan n.toNat [] 0 0)) else none
      | none => none
    | _, _ => none
  | .makeSlice t l c =>
    match T.und t, ρ l, ρ c with
    | some (.slice e), .int _ l, .int _ c =>
      match T.inf e, zeroT T e with
      | some i, some z =>
        if 0 ≤ l ∧ l ≤ c ∧ c ≤ 2 ^ 40 ∧ i.bytes * c ≤ mostBytes ∧ z.length = i.size then
          some (.slice (some ⟨H.next, 0, none⟩) l.toNat (2 * c.toNat + 1), H.alloc (.cells (repeatL c.toNat z) e))
        else none
      | _, _ => none
    | _, _, _ => none
  | .slice t x lo hi mx => (sliceV T t (ρ x) (lo.map ρ) (hi.map ρ) (mx.map ρ)).map fun v => (v, H)
  | .fieldAddr s x f => (fieldAddrV T s (ρ x) f).map fun v => (v, H)
  | .field s x f => (fieldV T s (ρ x) f).map fun v => (v, H)
  | .indexAddr t x i => (indexAddrV T t (ρ x) (ρ i)).map fun v => (v, H)
  | .index t x i => (indexV T t (ρ x) (ρ i)).map fun v => (v, H)
  | .lookup t m k ok => (lookupV P T t (ρ m) (ρ k) ok H).map fun v => (v, H)
  | .mapUpdate t m k x => (mapUpdateV P T t (ρ m) (ρ k) (ρ x) H).map fun H' => (undef, H')
  | .mapEntry t m k => mapEntryV P T t (ρ m) (ρ k) H
  | .entryStore _ m s x => (entryStoreV (ρ m) (ρ s) (ρ x) H).map fun H' => (undef, H')
  | .extract t i => match ρ t with | .tuple vs => (vs[i]?).map fun v => (v, H) | _ => none
  | .call { callee := .builtin b, args, argTypes } => builtinV P T b argTypes (args.toList.map ρ) H
  | _ => none

/-! ### Statements -/
structure St where
  tmps : List Value
  heap : AH

inductive Ex where
  | normal
  | exit (id : Nat)
  | ret

def envL (l : List Value) : Operand → Value
  | .tmp t => l.getD t undef
  | .const v => v
  | .global g => .pointer (some ⟨g, 0, none⟩)
  | .func f => .func (.func f) #[] #[]

/-- Operands that this evaluator takes: no variable of a package, constants without addresses. -/
def okOperand : Operand → Bool
  | .tmp _ => true
  | .const v => v.cells.toList.all closed1
  | .global _ => false
  | .func _ => true

def putL (l : List Value) (d : Option Tmp) (v : Value) : List Value :=
  match d with
  | some t => l.set t v
  | none => l

/-- Functions that are answered by a contract of their own. -/
abbrev Prims := FuncId → Option (List Value → AH → Option (Value × AH))

abbrev Runner := Code → St → Option (Ex × St)

def resultV (T : TT) (H : AH) (l : List Value) : ResultVar → Option Value
  | .tmp t => some (l.getD t undef)
  | .cell a t => loadV T H t (l.getD a undef)

def resultsL (T : TT) (H : AH) (l : List Value) : List ResultVar → Option (List Value)
  | [] => some []
  | r :: rs =>
    match resultV T H l r with
    | some v => if notTuple v then (resultsL T H l rs).map (v :: ·) else none
    | none => none

def resultOf : List Value → Value
  | [v] => v
  | vs => .tuple vs.toArray

def evCallW (T : TT) (X : Prims) (R : Runner) (f : FuncId) (args : List Value) (H : AH) : Option (Value × AH) :=
  match X f with
  | some p => p args H
  | none =>
    match T.fn f with
    | some fn =>
      match fn.body with
      | some c =>
        match R c ⟨args ++ List.replicate (fn.ntmps - args.length) undef, H⟩ with
        | some (.normal, s) => (resultsL T s.heap s.tmps fn.results.toList).map fun vs => (resultOf vs, s.heap)
        | some (.ret, s) => (resultsL T s.heap s.tmps fn.results.toList).map fun vs => (resultOf vs, s.heap)
        | _ => none
      | none => none
    | none => none

def setArgs : List Value → List (Tmp × Value) → List Value
  | l, [] => l
  | l, (t, v) :: r => setArgs (l.set t v) r

def evYieldW (R : Runner) (l : Nat) (args : List Value) (H : AH) : Option (Value × AH) :=
  match H.get l with
  | some (.loop _ _ tmps ps asg body) =>
    if args.length = ps.size then
      match R asg ⟨setArgs tmps (ps.toList.zip args), H⟩ with
      | some (.normal, s) =>
        match s.heap.get l with
        | some (.loop .ready pend t p a b) =>
          match R body ⟨s.tmps, s.heap.set l (.loop .busy pend t p a b)⟩ with
          | some (e, s') =>
            match s'.heap.get l with
            | some (.loop _ _ t p a b) =>
              match e with
              | .normal => some (.bool true, s'.heap.set l (.loop .ready none t p a b))
              | .ret => some (.bool false, s'.heap.set l (.loop .done (some .ret) t p a b))
              | .exit id => some (.bool false, s'.heap.set l (.loop .done (some (.exit id)) t p a b))
            | _ => none
          | none => none
        | _ => none
      | _ => none
    else none
  | _ => none

def evOperW (P : Program) (T : TT) (X : Prims) (R : Runner) (ρ : Operand → Value) (o : Op) (H : AH) : Option (Value × AH) :=
  match o with
  | .call { callee := .value f, args, .. } =>
    match ρ f with
    | .func (.func g) first cap => if first.isEmpty then evCallW T X R g (args.toList.map ρ ++ cap.toList) H else none
    | .func (.yield l) first cap => if first.isEmpty ∧ cap.isEmpty then evYieldW R l (args.toList.map ρ) H else none
    | _ => none
  | o => evOp P T ρ o H

def wantedL (ops : Array Oper) (l : List Value) (o : Oper) : Bool :=
  match o.guard with
  | none => true
  | some (j, want) =>
    (match ((ops[j]?).bind (·.dst)).bind (l[·]?) with
     | some (.bool b) => some b
     | _ => none) == some want

/-- One operation of a region: what it puts, and the heap behind it. -/
def evOneW (P : Program) (T : TT) (X : Prims) (R : Runner) (ops : Array Oper) (o : Oper) (s : St) : Option (Value × AH) :=
  if wantedL ops s.tmps o then
    if o.op.operands.toList.all okOperand then evOperW P T X R (envL s.tmps) o.op s.heap else none
  else some (undef, s.heap)

def evOpsW (P : Program) (T : TT) (X : Prims) (R : Runner) (ops : Array Oper) : List Oper → St → Option St
  | [], s => some s
  | o :: rest, s =>
    match evOneW P T X R ops o s with
    | some (v, H) => evOpsW P T X R ops rest ⟨putL s.tmps o.dst v, H⟩
    | none => none

/-! #### A region that draws its order -/
/-- Whether an operation does nothing to memory. -/
def stillOp : Op → Bool
  | .move _ | .assign _ | .pick .. | .build .. | .load .. | .nilCheck _ | .binOp .. | .unOp .. | .sliceToArrayPointer .. | .makeFunc .. | .slice .. | .fieldAddr .. | .field ..
  | .indexAddr .. | .index .. | .lookup .. | .extract .. => true
  | .call { callee := .builtin .len, .. } | .call { callee := .builtin .max, .. } | .call { callee := .builtin .min, .. } => true
  | _ => false

/-- Whether it doesn't look into memory either. -/
def pureOp : Op → Bool
  | .load .. | .lookup .. | .call { callee := .builtin .len, .. } => false
  | o => stillOp o

/-- Whether it only lays a new block, of what its operands say. -/
def laysOp : Op → Bool
  | .alloc _ | .box .. | .buildSlice .. | .makeSlice .. | .makeMap .. | .makeChan .. => true
  | _ => false

def loudOp (o : Op) : Bool := !stillOp o && !laysOp o

/-- The steps of a region in the order of the text: for each operation the state ahead of it, and what it put. -/
def traceW (P : Program) (T : TT) (X : Prims) (R : Runner) (ops : Array Oper) : List Oper → St → Option (List (St × Value) × St)
  | [], s => some ([], s)
  | o :: rest, s =>
    match evOneW P T X R ops o s with
    | some (v, H) =>
      match traceW P T X R ops rest ⟨putL s.tmps o.dst v, H⟩ with
      | some (tr, s') => some ((s, v) :: tr, s')
      | none => none
    | none => none

/-- Equality of values, as far as it is asked. -/
def eq1 : Value → Value → Bool
  | .bool a, .bool b => a == b
  | .int k a, .int j b => decide (k = j) && a == b
  | .string a, .string b => a.data.toList == b.data.toList
  | .pointer a, .pointer b => decide (a = b)
  | .slice a n c, .slice b m d => decide (a = b) && n == m && c == d
  | .map a, .map b => a == b
  | .chan a, .chan b => a == b
  | .nilFunc, .nilFunc => true
  | .nilIface, .nilIface => true
  | _, _ => false

def eqL : List Value → List Value → Bool
  | [], [] => true
  | a :: l, b :: r => eq1 a b && eqL l r
  | _, _ => false

def eqV : Value → Value → Bool
  | .agg a, .agg b => eqL a.toList b.toList
  | .tuple a, .tuple b => a.toList.length == b.toList.length && (a.toList.zip b.toList).all fun p =>
      match p with
      | (.agg a, .agg b) => eqL a.toList b.toList
      | (a, b) => eq1 a b
  | a, b => eq1 a b

/-- The numbers of the operations that are loud. -/
def louds (ops : Array Oper) : List Nat := (List.range ops.size).filter fun i => match ops[i]? with | some o => loudOp o.op | none => false

def heapAhead (tr : List (St × Value)) (last : St) (i : Nat) : AH :=
  match tr[i]? with
  | some (s, _) => s.heap
  | none => last.heap

/-- Whether all blocks that a value names are among the first n. -/
def below0 (n : Nat) : Value → Bool
  | .pointer (some a) => Nat.blt a.block n
  | .slice (some a) _ _ => Nat.blt a.block n
  | .map (some r) => Nat.blt r n
  | .chan (some r) => Nat.blt r n
  | _ => true
def below1 (n : Nat) : Value → Bool
  | .func (.yield l) _ _ => Nat.blt l n
  | .func _ _ cap => cap.toList.all (below0 n)
  | v => below0 n v
def belowA (n : Nat) : Value → Bool
  | .agg c => c.toList.all (below1 n)
  | v => below1 n v
def belowV (n : Nat) : Value → Bool
  | .tuple c => c.toList.all (belowA n)
  | v => belowA n v

/-- In the run in the text's order memory grows, and whatever lays or turns a block names none that is to come. -/
def tidyW (ops : Array Oper) (tr : List (St × Value)) (last : St) : Bool :=
  (List.range ops.size).all fun i =>
    match ops[i]?, tr[i]? with
    | some o, some (s, _) =>
      Nat.ble s.heap.next (heapAhead tr last (i + 1)).next && (stillOp o.op || !wantedL ops s.tmps o || o.op.operands.toList.all fun x => belowV s.heap.next (envL s.tmps x))
    | _, _ => false

/-- What a region that draws its order must show beside its run in the text's order: whatever looks into memory sees the same behind any of the loud operations that it may stand behind. -/
def steadyW (P : Program) (T : TT) (ops : Array Oper) (tr : List (St × Value)) (last : St) : Bool :=
  let b := Region.before ops
  let ls := louds ops
  (List.range ops.size).all fun i =>
    match ops[i]?, tr[i]? with
    | some o, some (s, v) =>
      if stillOp o.op && !pureOp o.op && wantedL ops s.tmps o then
        (ls ++ [ops.size]).all fun p =>
          if (ls.all fun e => if e < p then !(b.getD e 0).testBit i else !(b.getD i 0).testBit e) then
            (match evOp P T (envL s.tmps) o.op (heapAhead tr last p) with
             | some (v', _) => eqV v v' && o.op.operands.toList.all fun x => belowV (heapAhead tr last p).next (envL s.tmps x)
             | none => false)
          else true
      else true
    | _, _ => false

def evRegionW (P : Program) (T : TT) (X : Prims) (R : Runner) (ops : Array Oper) (draw : Bool) (s : St) : Option St :=
  if draw then
    match traceW P T X R ops ops.toList s with
    | some (tr, s') => if steadyW P T ops tr s' && tidyW ops tr s' then some s' else none
    | none => none
  else evOpsW P T X R ops ops.toList s

/-! ### The evaluator -/
def evCode (P : Program) (T : TT) (X : Prims) : Nat → Code → St → Option (Ex × St)
  | 0, _, _ => none
  | n + 1, c, s =>
    match c with
    | .skip => some (.normal, s)
    | .ret => some (.ret, s)
    | .exit id => some (.exit id, s)
    | .seq a b =>
      match evCode P T X n a s with
      | some (.normal, s') => evCode P T X n b s'
      | r => r
    | .cond x a b =>
      match envL s.tmps x with
      | .bool true => evCode P T X n a s
      | .bool false => evCode P T X n b s
      | _ => none
    | .block id a =>
      match evCode P T X n a s with
      | some (.exit id', s') => if id' = id then some (.normal, s') else some (.exit id', s')
      | r => r
    | .loop a =>
      match evCode P T X n a s with
      | some (.normal, s') => evCode P T X n (.loop a) s'
      | r => r
    | .region _ ops draw => (evRegionW P T X (evCode P T X n) ops draw s).map fun s' => (.normal, s')
    | .rangeFunc f ps asg body =>
      match okOperand f, envL s.tmps f with
      | true, .func (.func g) first cap =>
        if first.isEmpty then
          match evCallW T X (evCode P T X n) g (.func (.yield s.heap.next) #[] #[] :: cap.toList) (s.heap.alloc (.loop .ready none s.tmps ps asg body)) with
          | some (_, H) =>
            match H.get s.heap.next with
            | some (.loop st pend t p a b) =>
              if st = .busy then none else
              match pend with
              | none => some (.normal, ⟨s.tmps, H.set s.heap.next (.loop .exhausted pend t p a b)⟩)
              | some .ret => some (.ret, ⟨s.tmps, H.set s.heap.next (.loop .exhausted pend t p a b)⟩)
              | some (.exit id) => some (.exit id, ⟨s.tmps, H.set s.heap.next (.loop .exhausted pend t p a b)⟩)
              | _ => none
            | _ => none
          | none => none
        else none
      | _, _ => none
    | _ => none

def evCall (P : Program) (T : TT) (X : Prims) (n : Nat) (f : FuncId) (args : List Value) (H : AH) : Option (Value × AH) :=
  evCallW T X (evCode P T X n) f args H

/-! ### What is asked of the code once -/
/-- A region that draws its order: its slots are in order, its loud operations one behind the other. -/
def namesOf (o : Oper) : List Tmp := o.dst.toList ++ o.op.operands.toList.filterMap fun x => match x with
  | .tmp t => some t
  | _ => none

def guardSlot (ops : Array Oper) (o : Oper) : List Tmp :=
  match o.guard with
  | none => []
  | some (j, _) => ((ops[j]?).bind (·.dst)).toList

def drawOK (ops : Array Oper) : Bool :=
  let b := Region.before ops
  let ls := louds ops
  ((List.range ops.size).all fun i => match ops[i]? with
    | none => true
    | some o => o.after.toList.all fun e => decide (e.on < i) || !Region.binds .any e) &&
  ((List.range ops.size).all fun j => match ops[j]? with
    | none => true
    | some o => (namesOf o ++ guardSlot ops o).all fun t => (List.range ops.size).all fun i => match ops[i]? with
      | none => true
      | some o' => (match o'.dst with | some d => !(d == t) | none => true) || i == j || (b.getD (max i j) 0).testBit (min i j)) &&
  ls.all fun j => ls.all fun i => decide (j ≤ i) || (b.getD j 0).testBit i

def codeOK : Code → Bool
  | .region _ ops draw => if draw then drawOK ops else true
  | .seq a b => codeOK a && codeOK b
  | .cond _ a b => codeOK a && codeOK b
  | .block _ a => codeOK a
  | .loop a => codeOK a
  | .rangeFunc _ _ a b => codeOK a && codeOK b
  | _ => true

end Go.Ev
