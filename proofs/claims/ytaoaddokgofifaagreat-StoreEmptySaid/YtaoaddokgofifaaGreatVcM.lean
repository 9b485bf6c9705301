/- What is to be shown for a piece of code, worked out from the code itself: slots move by computation; what looks into memory, compares, calls or turns in a loop is left to be shown. -/
import Derived.Test.YtaoaddokgofifaaGreatWpC
import Derived.Test.YtaoaddokgofifaaGreatFvT
import Derived.Test.YtaoaddokgofifaaGreatFvA
import Derived.Test.YtaoaddokgofifaaGreatMmM
namespace Go.Vc
open Go Go.Ev Go.Fv Go.Wp

/-! ### types, as far as the code asks for them -/
inductive Row where
  | no
  | array (n sz : Nat)
  | slice (e sz : Nat)
  | ptr
  | map
  | func
  | int (k : IntKind)

/-- Of a type: how many cells; whether it is a row of cells; what kind it is; for a struct: where its fields lie, and how many cells they have; its zero value, as runs. -/
structure TI where
  sz : Nat
  bytes : Nat
  ag : Bool
  row : Row
  fs : List (Nat × Nat × Bool)
  z : List (Nat × Value)

noncomputable def runL (n : Nat) (v : Value) (r : List Value) : List Value := Nat.rec (motive := fun _ => List Value) r (fun _ ih => v :: ih) n
noncomputable def zeroL (z : List (Nat × Value)) : List Value := List.rec (motive := fun _ => List Value) [] (fun p _ ih => runL p.1 p.2 ih) z

abbrev Tys := Bt TI

def fieldOk (T : TT) (fs : Array Field) (i : Nat) (f : Nat × Nat × Bool) : Prop :=
  ∃ fd, fs[i]? = some fd ∧ fd.offset = f.1 ∧ szT T fd.type = some f.2.1 ∧ aggT T fd.type = some f.2.2
/-- What is said of a type is so. -/
structure TIOk (T : TT) (t : Nat) (i : TI) : Prop where
  sz : szT T t = some i.sz
  inf : ∃ x, T.inf t = some x ∧ x.size = i.sz ∧ x.bytes = i.bytes
  ag : aggT T t = some i.ag
  row : match i.row with
    | .no => True
    | .array n sz => ∃ e, T.und t = some (.array n e) ∧ szT T e = some sz
    | .slice e sz => T.und t = some (.slice e) ∧ szT T e = some sz
    | .ptr => ∃ e, T.und t = some (.pointer e)
    | .map => ∃ k e, T.und t = some (.map k e)
    | .func => ∃ a b c, T.und t = some (.func a b c)
    | .int k => T.und t = some (.int k)
  fs : i.fs ≠ [] → ∃ fs, T.und t = some (.struct fs) ∧ i.fs.length = fs.size ∧ ∀ (j : Nat) (f : Nat × Nat × Bool), i.fs[j]? = some f → fieldOk T fs j f
  z : i.z ≠ [] → zeroT T t = some (zeroL i.z)
def TysOk (T : TT) (S : Tys) : Prop := ∀ t i, getB S t = some i → TIOk T t i

noncomputable def tyK (S : Tys) (t : Nat) (K : TI → Prop) : Prop := Option.rec (motive := fun _ => Prop) False (fun i => K i) (getB S t)
theorem tyK_eq {S : Tys} {t : Nat} {K : TI → Prop} (h : tyK S t K) : ∃ i, getB S t = some i ∧ K i := by
  unfold tyK at h
  cases he : getB S t with
  | none => rw [he] at h; exact h.elim
  | some i => rw [he] at h; exact ⟨i, rfl, h⟩

/-! ### slots -/
noncomputable def nthK (l : List Value) : Nat → (Value → Prop) → Prop :=
  List.rec (motive := fun _ => Nat → (Value → Prop) → Prop) (fun _ K => K undef) (fun x _ ih i K => Nat.rec (motive := fun _ => Prop) (K x) (fun j _ => ih j K) i) l
theorem nthK_eq : ∀ {l : List Value} {t : Nat} {K : Value → Prop}, nthK l t K → K (l.getD t undef)
  | [], _, _, h => h
  | _ :: _, 0, _, h => h
  | x :: l, t + 1, K, h => by
    have := nthK_eq (l := l) (t := t) (K := K) h
    simpa using this
noncomputable def setK (v : Value) (l : List Value) : Nat → (List Value → Prop) → Prop :=
  List.rec (motive := fun _ => Nat → (List Value → Prop) → Prop) (fun _ K => K []) (fun x r ih i K => Nat.rec (motive := fun _ => Prop) (K (v :: r)) (fun j _ => ih j (fun r' => K (x :: r'))) i) l
theorem setK_eq {v : Value} : ∀ {l : List Value} {t : Nat} {K : List Value → Prop}, setK v l t K → K (l.set t v)
  | [], _, _, h => h
  | _ :: _, 0, _, h => h
  | x :: l, t + 1, K, h => setK_eq (l := l) (t := t) (K := fun r' => K (x :: r')) h
noncomputable def putK (l : List Value) (d : Option Tmp) (v : Value) (K : List Value → Prop) : Prop := Option.rec (motive := fun _ => Prop) (K l) (fun t => setK v l t K) d
theorem putK_eq {l : List Value} {d : Option Tmp} {v : Value} {K : List Value → Prop} (h : putK l d v K) : K (putL l d v) := by
  cases d with
  | none => exact h
  | some t => exact setK_eq h
/-- Arguments, and empty slots behind them. -/
noncomputable def padK (n : Nat) (l : List Value) : (List Value → Prop) → Prop :=
  List.rec (motive := fun _ => (List Value → Prop) → Prop) (fun K => Nat.rec (motive := fun _ => (List Value → Prop) → Prop) (fun K => K []) (fun _ ih K => ih (fun r => K (undef :: r))) n K) (fun x _ ih K => ih (fun r => K (x :: r))) l
theorem padK_eq {n : Nat} : ∀ {l : List Value} {K : List Value → Prop}, padK n l K → K (l ++ List.replicate n undef)
  | [], K, h => by
    have key : ∀ (n : Nat) (K : List Value → Prop), Nat.rec (motive := fun _ => (List Value → Prop) → Prop) (fun K => K []) (fun _ ih K => ih (fun r => K (undef :: r))) n K → K (List.replicate n undef) := by
      intro n
      induction n with
      | zero => intro K h; exact h
      | succ n ih => intro K h; exact ih (fun r => K (undef :: r)) h
    exact key n K h
  | x :: l, K, h => padK_eq (l := l) (K := fun r => K (x :: r)) h

noncomputable def argK (l : List Value) (x : Operand) (K : Value → Prop) : Prop :=
  match x with
  | .tmp t => nthK l t K
  | .const v => K v
  | .global _ => False
  | .func f => K (.func (.func f) #[] #[])
theorem argK_eq {l : List Value} {x : Operand} {K : Value → Prop} (h : argK l x K) : K (envL l x) := by
  cases x with
  | tmp t => exact nthK_eq h
  | const v => exact h
  | global g => exact h.elim
  | func f => exact h
noncomputable def argsK (l : List Value) (xs : List Operand) : (List Value → Prop) → Prop :=
  List.rec (motive := fun _ => (List Value → Prop) → Prop) (fun K => K []) (fun x _ ih K => argK l x fun v => ih fun vs => K (v :: vs)) xs
theorem argsK_eq {l : List Value} : ∀ {xs : List Operand} {K : List Value → Prop}, argsK l xs K → K (xs.map (envL l))
  | [], _, h => h
  | x :: r, K, h => argsK_eq (xs := r) (K := fun vs => K (envL l x :: vs)) (argK_eq (K := fun v => argsK l r fun vs => K (v :: vs)) h)

noncomputable def vK (v : Value) (kb : Bool → Prop) (ki : IntKind → Int → Prop) (kp : Option Addr → Prop) (ks : Option Addr → Nat → Nat → Prop) (km : Option Nat → Prop) (kf : Fn → Array Value → Array Value → Prop) (nf : Prop) (ka kt : Array Value → Prop) (ko : Prop) : Prop :=
  Value.rec (motive_1 := fun _ => Prop) (motive_2 := fun _ => Prop) (motive_3 := fun _ => Prop) kb ki (fun _ _ => ko) (fun _ _ _ => ko) (fun _ => ko) kp ks km (fun _ => ko) (fun f a b _ _ => kf f a b) nf (fun _ _ _ => ko) ko
    (fun c _ => ka c) (fun c _ => kt c) (fun _ _ => ko) ko (fun _ _ _ _ => ko) v
noncomputable def boolK (v : Value) (K : Bool → Prop) : Prop := vK v K (fun _ _ => False) (fun _ => False) (fun _ _ _ => False) (fun _ => False) (fun _ _ _ => False) False (fun _ => False) (fun _ => False) False
theorem boolK_eq {v : Value} {K : Bool → Prop} (h : boolK v K) : ∃ b, v = .bool b ∧ K b := by
  cases v <;> first | exact ⟨_, rfl, h⟩ | exact False.elim h
noncomputable def addrK (a : Option Addr) (K : Nat → Nat → Prop) : Prop :=
  Option.rec (motive := fun _ => Prop) False (fun a => Addr.rec (motive := fun _ => Prop) (fun b o s => Option.rec (motive := fun _ => Prop) (K b o) (fun _ => False) s) a) a
theorem addrK_eq {a : Option Addr} {K : Nat → Nat → Prop} (h : addrK a K) : ∃ b o, a = some ⟨b, o, none⟩ ∧ K b o := by
  cases a with
  | none => exact h.elim
  | some a =>
    obtain ⟨b, o, s⟩ := a
    cases s with
    | none => exact ⟨b, o, rfl, h⟩
    | some _ => exact False.elim h
noncomputable def ptrK (v : Value) (K : Nat → Nat → Prop) : Prop := vK v (fun _ => False) (fun _ _ => False) (fun a => addrK a K) (fun _ _ _ => False) (fun _ => False) (fun _ _ _ => False) False (fun _ => False) (fun _ => False) False
theorem ptrK_eq {v : Value} {K : Nat → Nat → Prop} (h : ptrK v K) : ∃ b o, v = ptr b o ∧ K b o := by
  cases v <;> first | exact False.elim h | skip
  obtain ⟨b, o, rfl, h⟩ := addrK_eq h
  exact ⟨b, o, rfl, h⟩
noncomputable def intK (v : Value) (K : IntKind → Int → Prop) : Prop := vK v (fun _ => False) K (fun _ => False) (fun _ _ _ => False) (fun _ => False) (fun _ _ _ => False) False (fun _ => False) (fun _ => False) False
theorem intK_eq {v : Value} {K : IntKind → Int → Prop} (h : intK v K) : ∃ k n, v = .int k n ∧ K k n := by
  cases v <;> first | exact ⟨_, _, rfl, h⟩ | exact False.elim h
noncomputable def tupK (v : Value) (K : List Value → Prop) : Prop := vK v (fun _ => False) (fun _ _ => False) (fun _ => False) (fun _ _ _ => False) (fun _ => False) (fun _ _ _ => False) False (fun _ => False) (fun c => K c.toList) False
theorem tupK_eq {v : Value} {K : List Value → Prop} (h : tupK v K) : ∃ c, v = .tuple c ∧ K c.toList := by
  cases v <;> first | exact ⟨_, rfl, h⟩ | exact False.elim h
noncomputable def sliK (v : Value) (K : Option Addr → Nat → Nat → Prop) : Prop := vK v (fun _ => False) (fun _ _ => False) (fun _ => False) K (fun _ => False) (fun _ _ _ => False) False (fun _ => False) (fun _ => False) False
theorem sliK_eq {v : Value} {K : Option Addr → Nat → Nat → Prop} (h : sliK v K) : ∃ a n c, v = .slice a n c ∧ K a n c := by
  cases v <;> first | exact ⟨_, _, _, rfl, h⟩ | exact False.elim h
/-- The cells of a value. -/
noncomputable def cellsK (v : Value) (K : List Value → Prop) : Prop := vK v (fun _ => K [v]) (fun _ _ => K [v]) (fun _ => K [v]) (fun _ _ _ => K [v]) (fun _ => K [v]) (fun _ _ _ => K [v]) (K [v]) (fun c => K c.toList) (fun _ => False) (K [v])
theorem cellsK_eq {v : Value} {K : List Value → Prop} (h : cellsK v K) : K v.cells.toList := by
  cases v <;> first | exact h | exact False.elim h
theorem iteK {A B : Prop} {b : Bool} (h : Bool.rec (motive := fun _ => Prop) B A b) : (b = true ∧ A) ∨ (b = false ∧ B) := by
  cases b
  · exact .inr ⟨rfl, h⟩
  · exact .inl ⟨rfl, h⟩

section
variable (P : Program) (T : TT) (X : Prims) (S : Tys)

/-! ### what is left to be shown -/
/-- A look into memory: one cell, or so many. -/
structure LoadWp (ag : Bool) (n : Nat) (H : AH) (b o : Nat) (K : Value → Prop) : Prop where
  out : ∃ c e, H.get b = some (.cells c e) ∧ if ag then o + n ≤ c.length ∧ K (.agg ((c.drop o).take n).toArray) else ∃ v, c[o]? = some v ∧ K v
structure StoreWp (n : Nat) (H : AH) (b o : Nat) (vs : List Value) (K : AH → Prop) : Prop where
  out : ∃ c e, H.get b = some (.cells c e) ∧ vs.length = n ∧ o + n ≤ c.length ∧ vs.all one1 = true ∧ K (H.set b (.cells (setMany c o vs) e))
structure AllocWp (H : AH) (c : List Value) (e : TypeId) (K : Nat → AH → Prop) : Prop where
  out : c.all one1 = true ∧ K H.next (H.alloc (.cells c e))
structure CmpWp (p : Prop) (K : Bool → Prop) : Prop where
  out : (p → K true) ∧ (¬ p → K false)
structure IndexWp (n : Nat) (i : Int) (K : Nat → Prop) : Prop where
  out : ∃ j : Nat, i = j ∧ j < n ∧ K j
structure SureWp (p : Prop) (A : Prop) : Prop where
  out : p ∧ A
structure CallWp (f : FuncId) (args : List Value) (H : AH) (K : Value → AH → Prop) : Prop where
  out : C P T X f args H K
structure YieldWp (k : Nat) (args : List Value) (H : AH) (K : Value → AH → Prop) : Prop where
  out : Y P T X k args H K
structure EvWp (o : Op) (l : List Value) (H : AH) (K : Value → AH → Prop) : Prop where
  out : ∃ v H', evOp P T (envL l) o H = some (v, H') ∧ K v H'
/-- An append, of elements of so many cells and bytes. -/
structure AppWp (e : TypeId) (sz bytes : Nat) (s x : Value) (H : AH) (K : Value → AH → Prop) : Prop where
  out : ∀ ts, appT T ts = some (e, sz, bytes) → ∃ v H', appendV T ts [s, x] H = some (v, H') ∧ K v H'
/-- A new slice of zeros. -/
structure MakeWp (e : TypeId) (bytes : Nat) (z : List Value) (n m : Int) (H : AH) (K : Value → AH → Prop) : Prop where
  out : 0 ≤ n ∧ n ≤ m ∧ m ≤ 2 ^ 40 ∧ bytes * m ≤ mostBytes ∧ K (.slice (some ⟨H.next, 0, none⟩) n.toNat (2 * m.toNat + 1)) (H.alloc (.cells (repeatL m.toNat z) e))
structure NewWp (o : AObj) (H : AH) (K : Nat → AH → Prop) : Prop where
  out : K H.next (H.alloc o)
structure RawWp (c : Code) (l : List Value) (H : AH) (Q : Ex → List Value → AH → Prop) : Prop where
  out : W P T X c l H Q

/-! ### single operations -/
noncomputable def arK (op : BinOp) (k : IntKind) (a b : Int) (K : Value → Prop) (s : Prop) : Prop :=
  match op with
  | .add => K (.int k (k.wrap (a + b)))
  | .sub => K (.int k (k.wrap (a - b)))
  | .mul => K (.int k (k.wrap (a * b)))
  | .lss => CmpWp (a < b) fun t => K (.bool t)
  | .leq => CmpWp (a ≤ b) fun t => K (.bool t)
  | .gtr => CmpWp (b < a) fun t => K (.bool t)
  | .geq => CmpWp (b ≤ a) fun t => K (.bool t)
  | .eql => CmpWp (a = b) fun t => K (.bool t)
  | .neq => CmpWp (a ≠ b) fun t => K (.bool t)
  | .quo => SureWp (b ≠ 0) (K (.int k (k.wrap (a.tdiv b))))
  | .rem => SureWp (b ≠ 0) (K (.int k (a.tmod b)))
  | _ => s
noncomputable def shK (op : BinOp) (k : IntKind) (a b : Int) (K : Value → Prop) (s : Prop) : Prop :=
  match op with
  | .shl => SureWp (0 ≤ b) (K (.int k (k.wrap (a * 2 ^ (min b.toNat k.bits)))))
  | .shr => SureWp (0 ≤ b) (K (.int k (a.fdiv (2 ^ (min b.toNat k.bits)))))
  | _ => s
noncomputable def nilK (op : BinOp) (r : Row) (a b : Option Addr) (K : Value → Prop) (s : Prop) : Prop :=
  match op, r with
  | .eql, .ptr => Option.rec (motive := fun _ => Prop) (Option.rec (motive := fun _ => Prop) (K (.bool true)) (fun _ => K (.bool false)) a) (fun _ => Option.rec (motive := fun _ => Prop) (K (.bool false)) (fun _ => s) a) b
  | .neq, .ptr => Option.rec (motive := fun _ => Prop) (Option.rec (motive := fun _ => Prop) (K (.bool false)) (fun _ => K (.bool true)) a) (fun _ => Option.rec (motive := fun _ => Prop) (K (.bool true)) (fun _ => s) a) b
  | _, _ => s
noncomputable def binK (op : BinOp) (t : TypeId) (va vb : Value) (K : Value → Prop) (s : Prop) : Prop :=
  vK va (fun _ => s) (fun k a => vK vb (fun _ => s) (fun j b => shK op k a b K (Bool.rec (motive := fun _ => Prop) s (arK op k a b K s) (Nat.beq (kindN k) (kindN j)))) (fun _ => s) (fun _ _ _ => s) (fun _ => s) (fun _ _ _ => s) s (fun _ => s) (fun _ => s) s)
    (fun a => vK vb (fun _ => s) (fun _ _ => s) (fun b => tyK S t fun i => nilK op i.row a b K s) (fun _ _ _ => s) (fun _ => s) (fun _ _ _ => s) s (fun _ => s) (fun _ => s) s)
    (fun _ _ _ => s) (fun _ => s) (fun _ _ _ => s) s (fun _ => s) (fun _ => s) s

/-- Cells laid over a row. -/
noncomputable def takeS (n : Nat) : List Value → List Value → List Value :=
  Nat.rec (motive := fun _ => List Value → List Value → List Value) (fun _ r => r) (fun _ ih c r => List.rec (motive := fun _ => List Value) r (fun x t _ => x :: ih t r) c) n
noncomputable def dropS (n : Nat) : List Value → List Value :=
  Nat.rec (motive := fun _ => List Value → List Value) (fun c => c) (fun _ ih c => List.rec (motive := fun _ => List Value) [] (fun _ t _ => ih t) c) n
noncomputable def appS (l r : List Value) : List Value := List.rec (motive := fun _ => List Value) r (fun x _ ih => x :: ih) l
noncomputable def rowS (c : List Value) (o : Nat) (vs : List Value) (m : Nat) : List Value := takeS o c (appS vs (dropS m c))
theorem takeS_eq : ∀ (n : Nat) (c r : List Value), takeS n c r = c.take n ++ r
  | 0, _, _ => rfl
  | _ + 1, [], _ => rfl
  | n + 1, x :: t, r => by show x :: takeS n t r = _; rw [takeS_eq n]; rfl
theorem dropS_eq : ∀ (n : Nat) (c : List Value), dropS n c = c.drop n
  | 0, _ => rfl
  | _ + 1, [] => rfl
  | n + 1, _ :: t => dropS_eq n t
theorem appS_eq : ∀ (l r : List Value), appS l r = l ++ r
  | [], _ => rfl
  | x :: l, r => by show x :: appS l r = _; rw [appS_eq l]; rfl
theorem rowS_eq {c vs : List Value} {o m : Nat} (hm : m = o + vs.length) (h : m ≤ c.length) : rowS c o vs m = setMany c o vs := by
  subst hm
  unfold rowS
  rw [takeS_eq, appS_eq, dropS_eq, setMany_row vs c o h]
noncomputable def fillK (ps : List (Nat × Nat × Value)) : List Value → (List Value → Prop) → Prop :=
  List.rec (motive := fun _ => List Value → (List Value → Prop) → Prop) (fun c K => K c)
    (fun p _ ih c K => cellsK p.2.2 fun vs => Bool.rec (motive := fun _ => Prop) False (ih (rowS c p.1 vs (p.1 + p.2.1)) K) (and (Nat.beq vs.length p.2.1) (and (Nat.ble (p.1 + p.2.1) c.length) (vs.all one1)))) ps

/-- The lesser, or the greater, of two numbers. -/
noncomputable def mmK (f : Int → Int → Int) (vs : List Value) (K : Value → Prop) (s : Prop) : Prop :=
  match vs with
  | [x, y] => vK x (fun _ => s) (fun k a => vK y (fun _ => s) (fun j b => Bool.rec (motive := fun _ => Prop) s (K (.int k (f a b))) (Nat.beq (kindN k) (kindN j))) (fun _ => s) (fun _ _ _ => s) (fun _ => s) (fun _ _ _ => s) s (fun _ => s) (fun _ => s) s)
      (fun _ => s) (fun _ _ _ => s) (fun _ => s) (fun _ _ _ => s) s (fun _ => s) (fun _ => s) s
  | _ => s
noncomputable def wpOp (o : Op) (l : List Value) (H : AH) (K : Value → AH → Prop) : Prop :=
  match o with
  | .move x => argK l x fun v => K v H
  | .assign x => argK l x fun v => K v H
  | .pick c a b => argK l c fun v => boolK v fun t => Bool.rec (motive := fun _ => Prop) (argK l b fun v => K v H) (argK l a fun v => K v H) t
  | .alloc e => tyK S e fun i => List.rec (motive := fun _ => Prop) False (fun _ _ _ => AllocWp H (zeroL i.z) e fun b H' => K (ptr b 0) H') i.z
  | .box e x => argK l x fun v => cellsK v fun vs => AllocWp H vs e fun b H' => K (ptr b 0) H'
  | .load t a => argK l a fun p => ptrK p fun b o => tyK S t fun i => LoadWp i.ag i.sz H b o fun v => K v H
  | .store t a x => argK l a fun p => ptrK p fun b o => argK l x fun v => cellsK v fun vs => tyK S t fun i => StoreWp i.sz H b o vs fun H' => K undef H'
  | .nilCheck x => argK l x fun v => vK v (fun _ => False) (fun _ _ => False) (fun a => Option.rec (motive := fun _ => Prop) False (fun a => K (.pointer (some a)) H) a) (fun _ _ _ => False) (fun _ => False) (fun _ _ _ => False) False (fun _ => False) (fun _ => False) False
  | .binOp op t x y t' => argK l x fun a => argK l y fun b => binK S op t a b (fun v => K v H) (EvWp P T (.binOp op t x y t') l H K)
  | .unOp .not _ x => argK l x fun v => vK v (fun b => K (.bool (Bool.rec (motive := fun _ => Bool) true false b)) H) (fun _ _ => False) (fun _ => False) (fun _ _ _ => False) (fun _ => False) (fun _ _ _ => False) False (fun _ => False) (fun _ => False) False
  | .unOp .neg t x => argK l x fun v => vK v (fun _ => EvWp P T (.unOp .neg t x) l H K) (fun k n => K (.int k (k.wrap (0 - n))) H) (fun _ => False) (fun _ _ _ => False) (fun _ => False) (fun _ _ _ => False) False (fun _ => False) (fun _ => False) False
  | .convert s d x => argK l x fun v => vK v (fun _ => EvWp P T (.convert s d x) l H K) (fun _ n => tyK S d fun i => tyK S s fun _ => match i.row with | .int k => K (.int k (k.wrap n)) H | _ => EvWp P T (.convert s d x) l H K)
      (fun _ => EvWp P T (.convert s d x) l H K) (fun _ _ _ => EvWp P T (.convert s d x) l H K) (fun _ => EvWp P T (.convert s d x) l H K) (fun _ _ _ => EvWp P T (.convert s d x) l H K) (EvWp P T (.convert s d x) l H K) (fun _ => EvWp P T (.convert s d x) l H K) (fun _ => EvWp P T (.convert s d x) l H K) (EvWp P T (.convert s d x) l H K)
  | .fieldAddr s x f => argK l x fun p => ptrK p fun b o => tyK S s fun i => Option.rec (motive := fun _ => Prop) False (fun q => Nat.rec (motive := fun _ => Prop) False (fun _ _ => K (ptr b (o + q.1)) H) q.2.1) i.fs[f]?
  | .indexAddr t x i => argK l x fun p => argK l i fun iv => intK iv fun _ i => tyK S t fun ti =>
      match ti.row with
      | .array n sz => ptrK p fun b o => IndexWp n i fun j => K (ptr b (o + j * sz)) H
      | .slice _ sz => sliK p fun a n _ => addrK a fun b o => IndexWp n i fun j => K (ptr b (o + j * sz)) H
      | _ => False
  | .extract x i => argK l x fun v => tupK v fun vs => Option.rec (motive := fun _ => Prop) False (fun v => K v H) vs[i]?
  | .build t ps => tyK S t fun i => List.rec (motive := fun _ => Prop) (EvWp P T (.build t ps) l H K) (fun _ _ _ => List.rec (motive := fun _ => Prop) (EvWp P T (.build t ps) l H K) (fun _ _ _ =>
      Bool.rec (motive := fun _ => Prop) False (argsK l (ps.toList.map (·.2)) fun vs => fillK ((ps.toList.map (·.1)).zip vs |>.map fun p => ((i.fs.getD p.1 (0, 0, false)).1, (i.fs.getD p.1 (0, 0, false)).2.1, p.2)) (zeroL i.z) fun c => K (.agg c.toArray) H)
        (ps.toList.all fun p => Nat.blt p.1 i.fs.length)) i.fs) i.z
  | .call { callee := .value f, args, .. } => argK l f fun fv => vK fv (fun _ => False) (fun _ _ => False) (fun _ => False) (fun _ _ _ => False) (fun _ => False)
      (fun g first cap => match g with
        | .func g => Bool.rec (motive := fun _ => Prop) False (argsK l args.toList fun as => CallWp P T X g (as ++ cap.toList) H K) first.isEmpty
        | .yield k => Bool.rec (motive := fun _ => Prop) False (argsK l args.toList fun as => YieldWp P T X k as H K) (and first.isEmpty cap.isEmpty)
        | _ => False) False (fun _ => False) (fun _ => False) False
  | .call { callee := .builtin .len, args, argTypes } => Option.rec (motive := fun _ => Prop) False (fun x => Option.rec (motive := fun _ => Prop) False (fun t => Bool.rec (motive := fun _ => Prop) False (tyK S t fun i => match i.row with
      | .slice _ _ => argK l x fun v => sliK v fun _ n _ => K (.int .i64 n) H
      | _ => EvWp P T (.call { callee := .builtin .len, args, argTypes }) l H K) (Nat.beq args.size 1)) argTypes[0]?) args[0]?
  | .buildSlice t n ps => tyK S t fun i => match i.row with
      | .slice e sz => tyK S e fun ie => Bool.rec (motive := fun _ => Prop) False (argsK l (ps.toList.map (·.2)) fun vs => fillK ((ps.toList.map (·.1)).zip vs |>.map fun p => (p.1 * sz, sz, p.2)) (repeatL n (zeroL ie.z)) fun c =>
          NewWp (.cells c e) H fun b H' => K (.slice (some ⟨b, 0, none⟩) n (2 * n + 1)) H')
          (and (Nat.blt 0 sz) (and (Nat.beq (zeroL ie.z).length sz) (and (Nat.ble (n * sz) 16777216) (Nat.blt 0 ie.z.length))))
      | _ => EvWp P T (.buildSlice t n ps) l H K
  | .makeMap _ none => NewWp (.map [] 0) H fun b H' => K (.map (some b)) H'
  | .makeSlice t n m => tyK S t fun i => match i.row with
      | .slice e sz => tyK S e fun ie => Bool.rec (motive := fun _ => Prop) False (argK l n fun n => argK l m fun m => intK n fun _ n => intK m fun _ m => MakeWp e ie.bytes (zeroL ie.z) n m H K) (and (Nat.beq (zeroL ie.z).length sz) (Nat.blt 0 ie.z.length))
      | _ => EvWp P T (.makeSlice t n m) l H K
  | .call { callee := .builtin .append, args, argTypes } => Option.rec (motive := fun _ => Prop) False (fun s => Option.rec (motive := fun _ => Prop) False (fun x => Option.rec (motive := fun _ => Prop) False (fun t => Option.rec (motive := fun _ => Prop) False (fun t' =>
      Bool.rec (motive := fun _ => Prop) False (tyK S t fun i => tyK S t' fun i' => match i.row, i'.row with
        | .slice e sz, .slice _ _ => tyK S e fun ie => Bool.rec (motive := fun _ => Prop) False (argK l s fun s => argK l x fun x => AppWp T e sz ie.bytes s x H K) (and (Nat.beq (zeroL ie.z).length sz) (Nat.blt 0 ie.z.length))
        | _, _ => EvWp P T (.call { callee := .builtin .append, args, argTypes }) l H K) (and (Nat.beq args.size 2) (Nat.beq argTypes.size 2))) argTypes[1]?) argTypes[0]?) args[1]?) args[0]?
  | .call { callee := .builtin .min, args, argTypes } => argsK l args.toList fun vs => mmK (fun a b => min a b) vs (fun v => K v H) (EvWp P T (.call { callee := .builtin .min, args, argTypes }) l H K)
  | .call { callee := .builtin .max, args, argTypes } => argsK l args.toList fun vs => mmK (fun a b => max a b) vs (fun v => K v H) (EvWp P T (.call { callee := .builtin .max, args, argTypes }) l H K)
  | o => EvWp P T o l H K

noncomputable def guardK (ops : Array Oper) (l : List Value) (g : Option (Nat × Bool)) (A B : Prop) : Prop :=
  match g with
  | none => A
  | some (j, want) =>
    match (ops[j]?).bind (·.dst) with
    | some d => Bool.rec (motive := fun _ => Prop) False (nthK l d fun v => boolK v fun b => match want with
      | true => Bool.rec (motive := fun _ => Prop) B A b
      | false => Bool.rec (motive := fun _ => Prop) A B b) (Nat.blt d l.length)
    | none => False

noncomputable def wpOps (ops : Array Oper) (r : List Oper) : List Value → AH → (List Value → AH → Prop) → Prop :=
  List.rec (motive := fun _ => List Value → AH → (List Value → AH → Prop) → Prop) (fun l H Q => Q l H)
    (fun o _ ih l H Q => guardK ops l o.guard (wpOp P T X S o.op l H fun v H' => putK l o.dst v fun l' => ih l' H' Q) (putK l o.dst undef fun l' => ih l' H Q)) r

noncomputable def seqQ (Q : Ex → List Value → AH → Prop) (K : List Value → AH → Prop) (e : Ex) (l : List Value) (H : AH) : Prop :=
  Ex.rec (motive := fun _ => Prop) (K l H) (fun i => Q (.exit i) l H) (Q .ret l H) e
noncomputable def blkQ (id : Nat) (Q : Ex → List Value → AH → Prop) (e : Ex) (l : List Value) (H : AH) : Prop :=
  Ex.rec (motive := fun _ => Prop) (Q .normal l H) (fun i => Bool.rec (motive := fun _ => Prop) (Q (.exit i) l H) (Q .normal l H) (Nat.beq i id)) (Q .ret l H) e

noncomputable def wpC (c : Code) : List Value → AH → (Ex → List Value → AH → Prop) → Prop :=
  Code.rec (motive := fun _ => List Value → AH → (Ex → List Value → AH → Prop) → Prop)
    (fun l H Q => Q .normal l H)
    (fun pos ops d l H Q => Bool.rec (motive := fun _ => Prop) (wpOps P T X S ops ops.toList l H (Q .normal)) (RawWp P T X (.region pos ops true) l H Q) d)
    (fun _ _ iha ihb l H Q => iha l H (seqQ Q fun l' H' => ihb l' H' Q))
    (fun x _ _ iha ihb l H Q => argK l x fun v => boolK v fun t => Bool.rec (motive := fun _ => Prop) (ihb l H Q) (iha l H Q) t)
    (fun id _ iha l H Q => iha l H (blkQ id Q))
    (fun a _ l H Q => RawWp P T X (.loop a) l H Q)
    (fun f ps a b _ _ l H Q => RawWp P T X (.rangeFunc f ps a b) l H Q)
    (fun i l H Q => Q (.exit i) l H)
    (fun a _ l H Q => RawWp P T X (.scope a) l H Q)
    (fun n l H Q => RawWp P T X (.label n) l H Q)
    (fun n l H Q => RawWp P T X (.goto n) l H Q)
    (fun l H Q => Q .ret l H)
    (fun w l H Q => RawWp P T X (.refuse w) l H Q) c

/-- The operands are such as may be. -/
def okOps (ops : Array Oper) : Bool := ops.toList.all fun o => o.op.operands.toList.all okOperand
def okC : Code → Bool
  | .seq a b => okC a && okC b
  | .cond _ a b => okC a && okC b
  | .block _ a => okC a
  | .loop a => okC a
  | .region _ ops _ => okOps ops
  | .rangeFunc _ _ a b => okC a && okC b
  | _ => true
end
end Go.Vc

namespace Go.Vc
open Go Go.Ev Go.Fv Go.Wp

section
variable {P : Program} {T : TT} {X : Prims} {S : Tys}

/-- A single operation's run. -/
def Run1 (P : Program) (T : TT) (X : Prims) (o : Op) (l : List Value) (H : AH) (K : Value → AH → Prop) : Prop :=
  ∃ n v H', evOperW P T X (evCode P T X n) (envL l) o H = some (v, H') ∧ K v H'
theorem Run1.ev {o : Op} {l : List Value} {H : AH} {K : Value → AH → Prop} {v : Value} {H' : AH} (hc : isCallV o = false) (h : evOp P T (envL l) o H = some (v, H')) (k : K v H') : Run1 P T X o l H K :=
  ⟨0, v, H', by rw [plain_oper hc]; exact h, k⟩
theorem Run1.evWp {o : Op} {l : List Value} {H : AH} {K : Value → AH → Prop} (hc : isCallV o = false) (h : EvWp P T o l H K) : Run1 P T X o l H K := by
  replace h := h.out
  obtain ⟨v, H', h1, h2⟩ := h
  exact .ev hc h1 h2

theorem off_of (hS : TysOk T S) {t : Nat} {i : TI} (h : getB S t = some i) {f : Nat} {q : Nat × Nat × Bool} (hq : i.fs[f]? = some q) (hz : q.2.1 ≠ 0) : offT T t f = some q.1 := by
  have hne : i.fs ≠ [] := by intro e; rw [e] at hq; simp at hq
  obtain ⟨fs, h1, _, h3⟩ := (hS t i h).fs hne
  obtain ⟨fd, h4, h5, h6, _⟩ := h3 f q hq
  unfold offT
  rw [h1]
  simp only [h4, h6]
  obtain ⟨n, hn⟩ := Nat.exists_eq_succ_of_ne_zero hz
  rw [hn, ← h5]

theorem arK_ok {op : BinOp} {t t' : TypeId} {x y : Operand} {l : List Value} {H : AH} {K : Value → AH → Prop} {k k' : IntKind} {a b : Int} (hx : envL l x = .int k a) (hy : envL l y = .int k' b)
    (hk : k' = k) (h : arK op k a b (fun v => K v H) (EvWp P T (.binOp op t x y t') l H K)) : Run1 P T X (.binOp op t x y t') l H K := by
  subst hk
  have go : ∀ {v}, binV P T op t x y (.int k' a) (.int k' b) = some v → K v H → Run1 P T X (.binOp op t x y t') l H K := fun hb hk => .ev rfl (ev_bin (by rw [hx, hy]; exact hb)) hk
  cases op
  case add => exact go (bin_add ..) h
  case sub => exact go (bin_sub ..) h
  case mul => exact go (bin_mul ..) h
  case lss =>
    have h : CmpWp (a < b) (fun t => K (.bool t) H) := h
    replace h := h.out
    by_cases hp : a < b
    · exact go ((bin_lss ..).trans (by rw [decide_eq_true hp])) (h.1 hp)
    · exact go ((bin_lss ..).trans (by rw [decide_eq_false hp])) (h.2 hp)
  case leq =>
    have h : CmpWp (a ≤ b) (fun t => K (.bool t) H) := h
    replace h := h.out
    by_cases hp : a ≤ b
    · exact go ((bin_leq ..).trans (by rw [decide_eq_true hp])) (h.1 hp)
    · exact go ((bin_leq ..).trans (by rw [decide_eq_false hp])) (h.2 hp)
  case gtr =>
    have h : CmpWp (b < a) (fun t => K (.bool t) H) := h
    replace h := h.out
    by_cases hp : b < a
    · exact go ((bin_gtr ..).trans (by rw [decide_eq_true hp])) (h.1 hp)
    · exact go ((bin_gtr ..).trans (by rw [decide_eq_false hp])) (h.2 hp)
  case geq =>
    have h : CmpWp (b ≤ a) (fun t => K (.bool t) H) := h
    replace h := h.out
    by_cases hp : b ≤ a
    · exact go ((bin_geq ..).trans (by rw [decide_eq_true hp])) (h.1 hp)
    · exact go ((bin_geq ..).trans (by rw [decide_eq_false hp])) (h.2 hp)
  case eql =>
    have h : CmpWp (a = b) (fun t => K (.bool t) H) := h
    replace h := h.out
    by_cases hp : a = b
    · exact go ((bin_eql ..).trans (by rw [decide_eq_true hp])) (h.1 hp)
    · exact go ((bin_eql ..).trans (by rw [decide_eq_false hp])) (h.2 hp)
  case neq =>
    have h : CmpWp (a ≠ b) (fun t => K (.bool t) H) := h
    replace h := h.out
    by_cases hp : a ≠ b
    · exact go ((bin_neq ..).trans (by rw [decide_eq_true hp])) (h.1 hp)
    · exact go ((bin_neq ..).trans (by rw [decide_eq_false hp])) (h.2 hp)
  case quo =>
    have h : SureWp (b ≠ 0) (K (.int k' (k'.wrap (a.tdiv b))) H) := h
    replace h := h.out
    exact go (binV_int (by simp only [binOp, Op.intDiv, ne_eq, not_true_eq_false, if_false, h.1]; rfl) rfl) h.2
  case rem =>
    have h : SureWp (b ≠ 0) (K (.int k' (a.tmod b)) H) := h
    replace h := h.out
    exact go (binV_int (by simp only [binOp, Op.intDiv, ne_eq, not_true_eq_false, if_false, h.1]; rfl) rfl) h.2
  all_goals exact .evWp rfl h

theorem shK_ok {op : BinOp} {t t' : TypeId} {x y : Operand} {l : List Value} {H : AH} {K : Value → AH → Prop} {k k' : IntKind} {a b : Int} {s : Prop} (hx : envL l x = .int k a) (hy : envL l y = .int k' b)
    (hs : s → Run1 P T X (.binOp op t x y t') l H K) (h : shK op k a b (fun v => K v H) s) : Run1 P T X (.binOp op t x y t') l H K := by
  unfold shK at h
  split at h
  · replace h := h.out
    refine .ev rfl (ev_bin ?_) h.2
    rw [hx, hy]
    refine binV_int ?_ rfl
    have hn : ¬ b < 0 := by omega
    simp only [binOp, Op.shift, hn, if_false]; rfl
  · replace h := h.out
    refine .ev rfl (ev_bin ?_) h.2
    rw [hx, hy]
    refine binV_int ?_ rfl
    have hn : ¬ b < 0 := by omega
    simp only [binOp, Op.shift, hn, if_false]; rfl
  · exact hs h

theorem un_neg {k : IntKind} {n : Int} : unV P .neg (.int k n) = some (.int k (k.wrap (0 - n))) := rfl

theorem mm_min {l : List Value} {H : AH} {args : Array Operand} {ts : Array TypeId} {K : Value → AH → Prop} (h : mmK (fun a b => min a b) (args.toList.map (envL l)) (fun v => K v H) (EvWp P T (.call { callee := .builtin .min, args := args, argTypes := ts }) l H K)) :
    Run1 P T X (.call { callee := .builtin .min, args := args, argTypes := ts }) l H K := by
  unfold mmK at h
  split at h
  · rename_i x y hv
    cases x <;> first | exact .evWp rfl h | skip
    rename_i k a
    cases y <;> first | exact .evWp rfl h | skip
    rename_i j b
    rcases iteK h with ⟨h1, h2⟩ | ⟨_, h2⟩
    · have := kindN_inj h1
      subst this
      refine .ev rfl (v := .int k (min a b)) ?_ h2
      simp only [evOp, builtinV, hv, manyV, foldV, min2V, if_true]
      rw [show (if b < a then b else a) = min a b by split <;> omega]; rfl
    · exact .evWp rfl h2
  · exact .evWp rfl h
theorem mm_max {l : List Value} {H : AH} {args : Array Operand} {ts : Array TypeId} {K : Value → AH → Prop} (h : mmK (fun a b => max a b) (args.toList.map (envL l)) (fun v => K v H) (EvWp P T (.call { callee := .builtin .max, args := args, argTypes := ts }) l H K)) :
    Run1 P T X (.call { callee := .builtin .max, args := args, argTypes := ts }) l H K := by
  unfold mmK at h
  split at h
  · rename_i x y hv
    cases x <;> first | exact .evWp rfl h | skip
    rename_i k a
    cases y <;> first | exact .evWp rfl h | skip
    rename_i j b
    rcases iteK h with ⟨h1, h2⟩ | ⟨_, h2⟩
    · have := kindN_inj h1
      subst this
      refine .ev rfl (v := .int k (max a b)) ?_ h2
      simp only [evOp, builtinV, hv, manyV, foldV, max2V, if_true]
      rw [show (if b > a then b else a) = max a b by split <;> omega]; rfl
    · exact .evWp rfl h2
  · exact .evWp rfl h

theorem nil_bin {op : BinOp} {t : TypeId} {x y : Operand} {a b : Option Addr} {e : TypeId} (hu : T.und t = some (.pointer e)) {r : Bool} (h : (if a.isNone || b.isNone then some (a.isNone && b.isNone) else none) = some r) {v : Value}
    (hv : (op = .eql ∧ v = .bool r) ∨ (op = .neq ∧ v = .bool (!r))) : binV P T op t x y (.pointer a) (.pointer b) = some v := by
  have hf : (flatV (.pointer a) && flatV (.pointer b)) = false := rfl
  unfold binV
  rw [hf]
  simp only [Bool.false_eq_true, if_false, hu, nilKind, Bool.and_self, if_true, nilEq, h]
  rcases hv with ⟨rfl, rfl⟩ | ⟨rfl, rfl⟩ <;> rfl

theorem nilK_ok {op : BinOp} {t t' : TypeId} {x y : Operand} {l : List Value} {H : AH} {K : Value → AH → Prop} {a b : Option Addr} {i : TI} (hS : TysOk T S) (hi : getB S t = some i) (hx : envL l x = .pointer a) (hy : envL l y = .pointer b)
    (h : nilK op i.row a b (fun v => K v H) (EvWp P T (.binOp op t x y t') l H K)) : Run1 P T X (.binOp op t x y t') l H K := by
  have hr := (hS t i hi).row
  unfold nilK at h
  split at h
  · rename_i hrow
    rw [hrow] at hr
    obtain ⟨e, hu⟩ := hr
    have go : ∀ {r}, (if a.isNone || b.isNone then some (a.isNone && b.isNone) else none) = some r → K (.bool r) H → Run1 P T X (.binOp .eql t x y t') l H K := fun hr hk =>
      .ev rfl (ev_bin (by rw [hx, hy]; exact nil_bin hu hr (.inl ⟨rfl, rfl⟩))) hk
    cases a <;> cases b
    · exact go rfl h
    · exact go rfl h
    · exact go rfl h
    · exact .evWp rfl h
  · rename_i hrow
    rw [hrow] at hr
    obtain ⟨e, hu⟩ := hr
    have go : ∀ {r}, (if a.isNone || b.isNone then some (a.isNone && b.isNone) else none) = some r → K (.bool (!r)) H → Run1 P T X (.binOp .neq t x y t') l H K := fun hr hk =>
      .ev rfl (ev_bin (by rw [hx, hy]; exact nil_bin hu hr (.inr ⟨rfl, rfl⟩))) hk
    cases a <;> cases b
    · exact go rfl h
    · exact go rfl h
    · exact go rfl h
    · exact .evWp rfl h
  · exact .evWp rfl h

theorem fillK_ok (fs : Nat → Option (Nat × Nat)) {K : List Value → Prop} : ∀ {ps : List (Nat × Value)} {q : Nat → Nat × Nat} {c : List Value}, (∀ p ∈ ps, fs p.1 = some (q p.1)) →
    fillK (ps.map fun p => ((q p.1).1, (q p.1).2, p.2)) c K → ∃ c', fillV fs ps c = some c' ∧ K c'
  | [], _, c, _, h => ⟨c, rfl, h⟩
  | (i, v) :: ps, q, c, hq, h => by
    have h := cellsK_eq (v := v) (K := fun vs => Bool.rec (motive := fun _ => Prop) False (fillK (ps.map fun p => ((q p.1).1, (q p.1).2, p.2)) (rowS c (q i).1 vs ((q i).1 + (q i).2)) K) (and (Nat.beq vs.length (q i).2) (and (Nat.ble ((q i).1 + (q i).2) c.length) (vs.all one1)))) h
    rcases iteK h with ⟨h1, h2⟩ | ⟨_, h2⟩
    · simp only [Bool.and_eq_true] at h1
      obtain ⟨h3, h4, h5⟩ := h1
      have h3 := Nat.eq_of_beq_eq_true h3
      have h4 := Nat.le_of_ble_eq_true h4
      rw [rowS_eq (by rw [h3]) h4] at h2
      obtain ⟨c', h6, h7⟩ := fillK_ok fs (fun p hp => hq p (List.mem_cons_of_mem _ hp)) h2
      refine ⟨c', ?_, h7⟩
      have := hq (i, v) (List.mem_cons_self ..)
      simp only [fillV]
      simp only at this
      rw [this]
      dsimp only
      rw [if_pos ⟨h3, h4, h5⟩]
      exact h6
    · exact h2.elim

theorem two_args {args : Array Operand} {s x : Operand} (h0 : args[0]? = some s) (h1 : args[1]? = some x) (h : args.size = 2) : args = #[s, x] := by
  apply Array.ext_getElem?
  intro j
  match j with
  | 0 => rw [h0]; rfl
  | 1 => rw [h1]; rfl
  | j + 2 => rw [Array.getElem?_eq_none (by omega)]; simp
theorem two_types {ts : Array TypeId} {s x : TypeId} (h0 : ts[0]? = some s) (h1 : ts[1]? = some x) (h : ts.size = 2) : ts = #[s, x] := by
  apply Array.ext_getElem?
  intro j
  match j with
  | 0 => rw [h0]; rfl
  | 1 => rw [h1]; rfl
  | j + 2 => rw [Array.getElem?_eq_none (by omega)]; simp

theorem bs_ok (hS : TysOk T S) {t : TypeId} {n : Nat} {ps : Array (Nat × Operand)} {l : List Value} {H : AH} {K : Value → AH → Prop} (h : wpOp P T X S (.buildSlice t n ps) l H K) : Run1 P T X (.buildSlice t n ps) l H K := by
  have h : tyK S t fun i => match i.row with
      | .slice e sz => tyK S e fun ie => Bool.rec (motive := fun _ => Prop) False (argsK l (ps.toList.map (·.2)) fun vs => fillK ((ps.toList.map (·.1)).zip vs |>.map fun p => (p.1 * sz, sz, p.2)) (repeatL n (zeroL ie.z)) fun c =>
          NewWp (.cells c e) H fun b H' => K (.slice (some ⟨b, 0, none⟩) n (2 * n + 1)) H')
          (and (Nat.blt 0 sz) (and (Nat.beq (zeroL ie.z).length sz) (and (Nat.ble (n * sz) 16777216) (Nat.blt 0 ie.z.length))))
      | _ => EvWp P T (.buildSlice t n ps) l H K := h
  obtain ⟨i, h1, h2⟩ := tyK_eq h
  have hr := (hS t i h1).row
  split at h2
  · rename_i e sz hrow
    rw [hrow] at hr
    obtain ⟨hu, hs⟩ := hr
    obtain ⟨ie, h3, h4⟩ := tyK_eq h2
    rcases iteK h4 with ⟨hc, h5⟩ | ⟨_, h5⟩
    · simp only [Bool.and_eq_true, Nat.blt_eq, Nat.ble_eq] at hc
      obtain ⟨c1, c2, c3, c4⟩ := hc
      have c2 := Nat.eq_of_beq_eq_true c2
      have hz := (hS e ie h3).z (by intro e0; rw [e0] at c4; simp at c4)
      have h6 := argsK_eq (K := fun vs => fillK ((ps.toList.map (·.1)).zip vs |>.map fun p => (p.1 * sz, sz, p.2)) (repeatL n (zeroL ie.z)) fun c => NewWp (.cells c e) H fun b H' => K (.slice (some ⟨b, 0, none⟩) n (2 * n + 1)) H') h5
      have hzip : (ps.toList.map (·.1)).zip ((ps.toList.map (·.2)).map (envL l)) = ps.toList.map fun p => (p.1, envL l p.2) := by
        rw [List.map_map, List.zip_map']
        rfl
      rw [hzip] at h6
      obtain ⟨c, h7, h8⟩ := fillK_ok (fun i => some (i * sz, sz)) (q := fun i => (i * sz, sz)) (fun _ _ => rfl) h6
      refine .ev rfl ?_ h8.out
      have hc' : 0 < sz ∧ (zeroL ie.z).length = sz ∧ n * sz ≤ 2 ^ 24 := ⟨c1, c2, c3⟩
      simp only [evOp, hu, hs, hz, if_pos hc', h7]
    · exact h5.elim
  · exact .evWp rfl h2

theorem mk_ok (hS : TysOk T S) {t : TypeId} {n m : Operand} {l : List Value} {H : AH} {K : Value → AH → Prop} (h : wpOp P T X S (.makeSlice t n m) l H K) : Run1 P T X (.makeSlice t n m) l H K := by
  have h : tyK S t fun i => match i.row with
      | .slice e sz => tyK S e fun ie => Bool.rec (motive := fun _ => Prop) False (argK l n fun n => argK l m fun m => intK n fun _ n => intK m fun _ m => MakeWp e ie.bytes (zeroL ie.z) n m H K) (and (Nat.beq (zeroL ie.z).length sz) (Nat.blt 0 ie.z.length))
      | _ => EvWp P T (.makeSlice t n m) l H K := h
  obtain ⟨i, h1, h2⟩ := tyK_eq h
  have hr := (hS t i h1).row
  split at h2
  · rename_i e sz hrow
    rw [hrow] at hr
    obtain ⟨hu, hs⟩ := hr
    obtain ⟨ie, h3, h4⟩ := tyK_eq h2
    rcases iteK h4 with ⟨hc, h5⟩ | ⟨_, h5⟩
    · simp only [Bool.and_eq_true, Nat.blt_eq] at hc
      obtain ⟨c2, c4⟩ := hc
      have c2 := Nat.eq_of_beq_eq_true c2
      have hie := hS e ie h3
      have hz := hie.z (by intro e0; rw [e0] at c4; simp at c4)
      obtain ⟨x, h6, h7, h8⟩ := hie.inf
      have h5 := argK_eq h5
      have h5 := argK_eq h5
      obtain ⟨k, n', h9, h5⟩ := intK_eq h5
      obtain ⟨k', m', h10, h5⟩ := intK_eq h5
      obtain ⟨d1, d2, d3, d4, d5⟩ := h5.out
      refine .ev rfl ?_ d5
      have hsz : szT T e = some x.size := by unfold szT; rw [h6]
      rw [hs] at hsz
      cases hsz
      simp only [evOp, hu, h9, h10, h6, hz]
      rw [if_pos ⟨d1, d2, d3, by rw [h8]; exact d4, c2⟩]
    · exact h5.elim
  · exact .evWp rfl h2

theorem app_ok (hS : TysOk T S) {args : Array Operand} {ts : Array TypeId} {l : List Value} {H : AH} {K : Value → AH → Prop} (h : wpOp P T X S (.call { callee := .builtin .append, args := args, argTypes := ts }) l H K) :
    Run1 P T X (.call { callee := .builtin .append, args := args, argTypes := ts }) l H K := by
  have h : Option.rec (motive := fun _ => Prop) False (fun s => Option.rec (motive := fun _ => Prop) False (fun x => Option.rec (motive := fun _ => Prop) False (fun t => Option.rec (motive := fun _ => Prop) False (fun t' =>
      Bool.rec (motive := fun _ => Prop) False (tyK S t fun i => tyK S t' fun i' => match i.row, i'.row with
        | .slice e sz, .slice _ _ => tyK S e fun ie => Bool.rec (motive := fun _ => Prop) False (argK l s fun s => argK l x fun x => AppWp T e sz ie.bytes s x H K) (and (Nat.beq (zeroL ie.z).length sz) (Nat.blt 0 ie.z.length))
        | _, _ => EvWp P T (.call { callee := .builtin .append, args, argTypes := ts }) l H K) (and (Nat.beq args.size 2) (Nat.beq ts.size 2))) ts[1]?) ts[0]?) args[1]?) args[0]? := h
  cases ha0 : args[0]? with
  | none => rw [ha0] at h; exact h.elim
  | some s =>
    cases ha1 : args[1]? with
    | none => rw [ha0, ha1] at h; exact h.elim
    | some x =>
      cases ht0 : ts[0]? with
      | none => rw [ha0, ha1, ht0] at h; exact h.elim
      | some t =>
        cases ht1 : ts[1]? with
        | none => rw [ha0, ha1, ht0, ht1] at h; exact h.elim
        | some t' =>
          rw [ha0, ha1, ht0, ht1] at h
          rcases iteK h with ⟨hc, h⟩ | ⟨_, h⟩
          · simp only [Bool.and_eq_true] at hc
            have e1 := two_args ha0 ha1 (Nat.eq_of_beq_eq_true hc.1)
            have e2 := two_types ht0 ht1 (Nat.eq_of_beq_eq_true hc.2)
            obtain ⟨i, h1, h2⟩ := tyK_eq h
            obtain ⟨i', h1', h2⟩ := tyK_eq h2
            have hr := (hS t i h1).row
            have hr' := (hS t' i' h1').row
            split at h2
            · rename_i e sz e' sz' hrow hrow'
              rw [hrow] at hr
              rw [hrow'] at hr'
              obtain ⟨hu, hs⟩ := hr
              obtain ⟨ie, h3, h4⟩ := tyK_eq h2
              rcases iteK h4 with ⟨hc, h5⟩ | ⟨_, h5⟩
              · simp only [Bool.and_eq_true, Nat.blt_eq] at hc
                obtain ⟨c2, c4⟩ := hc
                have c2 := Nat.eq_of_beq_eq_true c2
                have hie := hS e ie h3
                have hz := hie.z (by intro e0; rw [e0] at c4; simp at c4)
                obtain ⟨y, h6, h7, h8⟩ := hie.inf
                have hsz : szT T e = some y.size := by unfold szT; rw [h6]
                rw [hs] at hsz
                cases hsz
                have h5 := argK_eq h5
                have h5 := argK_eq h5
                have hap : appT T ts = some (e, y.size, ie.bytes) := by
                  subst e2
                  unfold appT
                  have g1 : (#[t, t'] : Array TypeId)[0]? = some t := rfl
                  have g2 : ((#[t, t'] : Array TypeId)[1]?).bind T.und = T.und t' := rfl
                  rw [g1]
                  dsimp only
                  rw [hu]
                  dsimp only
                  rw [h6, g2, hr'.1]
                  dsimp only
                  rw [if_pos ⟨rfl, by rw [hz]; rfl, by rw [hz]; exact congrArg some c2⟩, h8]
                obtain ⟨v, H', h9, h10⟩ := h5.out ts hap
                subst e1
                refine .ev rfl ?_ h10
                simp only [evOp, builtinV, List.map]
                exact h9
              · exact h5.elim
            · exact .evWp rfl h2
          · exact h.elim

theorem notCall {o : Op} (h : ∀ (f : Operand) (args : Array Operand) (ts : Array TypeId), o = .call { callee := .value f, args := args, argTypes := ts } → False) : isCallV o = false := by
  cases o <;> first | rfl | skip
  rename_i c
  obtain ⟨callee, args, ts⟩ := c
  cases callee <;> first | rfl | skip
  exact (h _ _ _ rfl).elim

theorem wpOp_ok (hS : TysOk T S) {o : Op} {l : List Value} {H : AH} {K : Value → AH → Prop} (h : wpOp P T X S o l H K) : Run1 P T X o l H K := by
  have h0 := h
  unfold wpOp at h
  split at h
  · exact .ev rfl (ev_move _) (argK_eq h)
  · exact .ev rfl (ev_assign _) (argK_eq h)
  · rename_i c a b
    obtain ⟨t, h1, h2⟩ := boolK_eq (argK_eq h)
    cases t
    · exact .ev rfl (ev_pick h1) (argK_eq (K := fun v => K v H) h2)
    · exact .ev rfl (ev_pick h1) (argK_eq (K := fun v => K v H) h2)
  · rename_i e
    obtain ⟨i, h1, h2⟩ := tyK_eq h
    have hz := (hS e i h1).z
    cases hzz : i.z with
    | nil => rw [hzz] at h2; exact h2.elim
    | cons p r =>
      rw [hzz] at h2
      have h2 : AllocWp H (zeroL (p :: r)) e (fun b H' => K (ptr b 0) H') := h2
      replace h2 := h2.out
      have := hz (by rw [hzz]; simp)
      rw [hzz] at this
      exact .ev rfl (ev_alloc this) h2.2
  · rename_i e x
    have h := argK_eq h
    have h := cellsK_eq (K := fun vs => AllocWp H vs e fun b H' => K (ptr b 0) H') h
    replace h := h.out
    exact .ev rfl (ev_box rfl h.1) h.2
  · rename_i t a
    obtain ⟨b, o, h1, h2⟩ := ptrK_eq (argK_eq h)
    obtain ⟨i, h3, h4⟩ := tyK_eq h2
    replace h4 := h4.out
    obtain ⟨c, e, h5, h6⟩ := h4
    have hi := hS t i h3
    cases hag : i.ag with
    | true =>
      rw [hag] at h6
      simp only [if_true] at h6
      exact .ev rfl (ev_loadA h1 h5 (by rw [hi.ag, hag]) hi.sz h6.1 rfl) h6.2
    | false =>
      rw [hag] at h6
      simp only [Bool.false_eq_true, if_false] at h6
      obtain ⟨v, h7, h8⟩ := h6
      exact .ev rfl (ev_load h1 h5 (by rw [hi.ag, hag]) h7) h8
  · rename_i t a x
    obtain ⟨b, o, h1, h2⟩ := ptrK_eq (argK_eq h)
    have h2 := argK_eq h2
    have h2 := cellsK_eq (K := fun vs => tyK S t fun i => StoreWp i.sz H b o vs fun H' => K undef H') h2
    obtain ⟨i, h3, h4⟩ := tyK_eq h2
    replace h4 := h4.out
    obtain ⟨c, e, h5, h6, h7, h8, h9⟩ := h4
    exact .ev rfl (ev_store h1 h5 (hS t i h3).sz rfl h6 h7 h8) h9
  · rename_i x
    have h := argK_eq h
    cases hv : envL l x <;> rw [hv] at h <;> first | exact False.elim h | skip
    rename_i a
    cases a with
    | none => exact h.elim
    | some a =>
      refine .ev rfl ?_ h
      simp only [evOp, hv]
  · rename_i op t x y t'
    have h := argK_eq h
    have h := argK_eq h
    unfold binK at h
    cases hx : envL l x <;> rw [hx] at h <;> first | exact .evWp rfl h | skip
    · rename_i k a
      cases hy : envL l y <;> rw [hy] at h <;> first | exact .evWp rfl h | skip
      rename_i k' b
      refine shK_ok hx hy (fun h => ?_) h
      rcases iteK h with ⟨h1, h2⟩ | ⟨_, h2⟩
      · exact arK_ok hx hy (kindN_inj h1).symm h2
      · exact .evWp rfl h2
    · cases hy : envL l y <;> rw [hy] at h <;> first | exact .evWp rfl h | skip
      obtain ⟨i, h1, h2⟩ := tyK_eq h
      exact nilK_ok hS h1 hx hy h2
  · rename_i t x
    have h := argK_eq h
    cases hv : envL l x <;> rw [hv] at h <;> first | exact False.elim h | skip
    rename_i b
    exact .ev rfl (ev_un (v := .bool (!b)) (by rw [hv]; exact un_not _ _)) (by cases b <;> exact h)
  · rename_i t x
    have h := argK_eq h
    cases hv : envL l x <;> rw [hv] at h <;> first | exact False.elim h | exact .evWp rfl h | skip
    exact .ev rfl (ev_un (by rw [hv]; exact un_neg)) h
  · rename_i s d x
    have h := argK_eq h
    cases hv : envL l x <;> rw [hv] at h <;> first | exact .evWp rfl h | skip
    rename_i k' n
    obtain ⟨i, h1, h2⟩ := tyK_eq h
    obtain ⟨i', h3, h4⟩ := tyK_eq h2
    have hr := (hS d i h1).row
    split at h4
    · rename_i k hrow
      rw [hrow] at hr
      have hsz := (hS s i' h3).ag
      cases hu : T.und s with
      | none => unfold aggT at hsz; rw [hu] at hsz; cases hsz
      | some ds => exact .ev rfl (ev_convert hu hr hv) h4
    · exact .evWp rfl h4
  · rename_i s x f
    obtain ⟨b, o, h1, h2⟩ := ptrK_eq (argK_eq h)
    obtain ⟨i, h3, h4⟩ := tyK_eq h2
    cases hq : i.fs[f]? with
    | none => rw [hq] at h4; exact h4.elim
    | some q =>
      rw [hq] at h4
      obtain ⟨o1, n1, a1⟩ := q
      cases n1 with
      | zero => exact False.elim h4
      | succ n1 => exact .ev rfl (ev_fieldAddr h1 (off_of hS h3 hq (Nat.succ_ne_zero n1))) h4
  · rename_i t x ix
    have h := argK_eq h
    have h := argK_eq h
    obtain ⟨k, i, h1, h2⟩ := intK_eq h
    obtain ⟨ti, h3, h4⟩ := tyK_eq h2
    have hr := (hS t ti h3).row
    split at h4
    · rename_i n sz hrow
      rw [hrow] at hr
      obtain ⟨e, h5, h6⟩ := hr
      obtain ⟨b, o, h7, h8⟩ := ptrK_eq h4
      replace h8 := h8.out
      obtain ⟨j, rfl, h9, h10⟩ := h8
      exact .ev rfl (ev_indexA h5 h6 h7 h1 h9) h10
    · rename_i e sz hrow
      rw [hrow] at hr
      obtain ⟨h5, h6⟩ := hr
      obtain ⟨a, n, c, h7, h8⟩ := sliK_eq h4
      obtain ⟨b, o, rfl, h8⟩ := addrK_eq h8
      replace h8 := h8.out
      obtain ⟨j, rfl, h9, h10⟩ := h8
      exact .ev rfl (ev_indexS h5 h6 h7 h1 h9) h10
    · exact h4.elim
  · rename_i x i
    have h := argK_eq h
    obtain ⟨c, h1, h2⟩ := tupK_eq (K := fun vs => Option.rec (motive := fun _ => Prop) False (fun v => K v H) vs[i]?) h
    cases hv : c.toList[i]? with
    | none => rw [hv] at h2; exact h2.elim
    | some v =>
      rw [hv] at h2
      refine .ev rfl ?_ h2
      rw [Array.getElem?_toList] at hv
      simp only [evOp, h1, hv]; rfl
  · rename_i t ps
    obtain ⟨i, h1, h2⟩ := tyK_eq h
    have hi := hS t i h1
    cases hz : i.z with
    | nil => rw [hz] at h2; exact .evWp rfl h2
    | cons z0 zr =>
      rw [hz] at h2
      cases hf : i.fs with
      | nil => rw [hf] at h2; exact .evWp rfl h2
      | cons f0 fr =>
        rw [hf] at h2
        rcases iteK h2 with ⟨hall, h2⟩ | ⟨_, h2⟩
        rotate_left
        · exact h2.elim
        have hall : ∀ p ∈ ps.toList, p.1 < i.fs.length := fun p hp => by
          have := List.all_eq_true.1 hall p hp
          rw [hf]
          simpa [Nat.blt_eq] using this
        have h3 := argsK_eq (K := fun vs => fillK ((ps.toList.map (·.1)).zip vs |>.map fun p => ((i.fs.getD p.1 (0, 0, false)).1, (i.fs.getD p.1 (0, 0, false)).2.1, p.2)) (zeroL i.z) fun c => K (.agg c.toArray) H) (by rw [hz, hf]; exact h2)
        obtain ⟨fs, h4, h5, h6⟩ := hi.fs (by rw [hf]; simp)
        have h7 := hi.z (by rw [hz]; simp)
        have hzip : (ps.toList.map (·.1)).zip ((ps.toList.map (·.2)).map (envL l)) = ps.toList.map fun p => (p.1, envL l p.2) := by
          rw [List.map_map, List.zip_map']
          rfl
        rw [hzip] at h3
        · obtain ⟨c', h8, h9⟩ := fillK_ok (fieldPl T fs) (q := fun j => ((i.fs.getD j (0, 0, false)).1, (i.fs.getD j (0, 0, false)).2.1)) (fun p hp => by
            obtain ⟨p', hp', rfl⟩ := List.mem_map.1 hp
            have hlt := hall p' hp'
            obtain ⟨fd, k1, k2, k3, k4⟩ := h6 p'.1 i.fs[p'.1] (List.getElem?_eq_getElem hlt)
            have e : i.fs.getD p'.1 (0, 0, false) = i.fs[p'.1] := by rw [List.getD_eq_getElem?_getD, List.getElem?_eq_getElem hlt]; rfl
            simp only [e]
            unfold fieldPl
            simp only [k1, k3, k2]) h3
          refine .ev rfl (ev_build rfl (v := .agg c'.toArray) ?_) h9
          unfold buildV
          rw [h7, h4]
          dsimp only
          rw [if_pos, h8]
          · rfl
          · rw [List.all_eq_true]
            intro fd hfd
            obtain ⟨j, hj, hje⟩ := List.mem_iff_getElem.1 hfd
            have hj' : j < i.fs.length := by rw [h5]; simpa using hj
            obtain ⟨fd', k1, _, k3, _⟩ := h6 j i.fs[j] (List.getElem?_eq_getElem hj')
            have : fd' = fd := by
              have k1 : fs.toList[j]? = some fd' := by rw [Array.getElem?_toList]; exact k1
              rw [List.getElem?_eq_getElem hj, hje] at k1
              cases k1; rfl
            rw [← this, k3]; rfl
  · rename_i f args ts
    have h := argK_eq h
    cases hv : envL l f <;> rw [hv] at h <;> first | exact False.elim h | skip
    rename_i g first cap
    cases g <;> first | exact False.elim h | skip
    · rename_i g
      rcases iteK h with ⟨h1, h2⟩ | ⟨_, h2⟩
      · have h3 := argsK_eq (K := fun as => CallWp P T X g (as ++ cap.toList) H K) h2
        replace h3 := h3.out
        obtain ⟨n, v, H', h4, h5⟩ := h3
        refine ⟨n, v, H', ?_, h5⟩
        simp only [evOperW, hv, h1, if_true]
        exact h4
      · exact h2.elim
    · rename_i k
      rcases iteK h with ⟨h1, h2⟩ | ⟨_, h2⟩
      · have h3 := argsK_eq (K := fun as => YieldWp P T X k as H K) h2
        replace h3 := h3.out
        obtain ⟨n, v, H', h4, h5⟩ := h3
        simp only [Bool.and_eq_true] at h1
        refine ⟨n, v, H', ?_, h5⟩
        simp only [evOperW, hv]
        rw [if_pos h1]
        exact h4
      · exact h2.elim
  · rename_i args ts
    cases ha : args[0]? with
    | none => rw [ha] at h; exact h.elim
    | some x =>
      rw [ha] at h
      cases ht : ts[0]? with
      | none => rw [ht] at h; exact h.elim
      | some t =>
        rw [ht] at h
        rcases iteK h with ⟨h1, h2⟩ | ⟨_, h2⟩
        · have h1 := Nat.eq_of_beq_eq_true h1
          have hargs : args = #[x] := by
            apply Array.ext_getElem?
            intro j
            cases j with
            | zero => rw [ha]; rfl
            | succ j => rw [Array.getElem?_eq_none (by omega)]; simp
          subst hargs
          obtain ⟨i, h3, h4⟩ := tyK_eq h2
          have hr := (hS t i h3).row
          split at h4
          · rename_i e sz hrow
            rw [hrow] at hr
            obtain ⟨h5, _⟩ := hr
            obtain ⟨a, n, c, h7, h8⟩ := sliK_eq (argK_eq h4)
            exact .ev rfl (ev_len ht h5 h7) h8
          · exact .evWp rfl h4
        · exact h2.elim
  · exact bs_ok hS h0
  · exact .ev rfl rfl h.out
  · exact mk_ok hS h0
  · exact app_ok hS h0
  · exact mm_min (argsK_eq (K := fun vs => mmK _ vs _ _) h)
  · exact mm_max (argsK_eq (K := fun vs => mmK _ vs _ _) h)
  · rename_i hcall _ _ _ _ _ _ _
    refine .evWp ?_ h
    exact notCall hcall

theorem guardK_ok {ops : Array Oper} {o : Oper} {l : List Value} {A B : Prop} (h : guardK ops l o.guard A B) : (wantedL ops l o = true ∧ A) ∨ (wantedL ops l o = false ∧ B) := by
  cases hg : o.guard with
  | none =>
    rw [hg] at h
    exact .inl ⟨by unfold wantedL; rw [hg], h⟩
  | some g =>
    obtain ⟨j, want⟩ := g
    rw [hg] at h
    unfold guardK at h
    dsimp only at h
    cases hd : (ops[j]?).bind (·.dst) with
    | none => rw [hd] at h; exact h.elim
    | some d =>
      rw [hd] at h
      rcases iteK h with ⟨h1, h2⟩ | ⟨_, h2⟩
      · rw [Nat.blt_eq] at h1
        obtain ⟨b, h3, h4⟩ := boolK_eq (nthK_eq h2)
        have hw := wanted_is hg hd (b := b) h3 h1
        cases want
        · rcases iteK h4 with ⟨rfl, h5⟩ | ⟨rfl, h5⟩
          · exact .inr ⟨hw, h5⟩
          · exact .inl ⟨hw, h5⟩
        · rcases iteK h4 with ⟨rfl, h5⟩ | ⟨rfl, h5⟩
          · exact .inl ⟨hw, h5⟩
          · exact .inr ⟨hw, h5⟩
      · exact h2.elim

theorem wpOps_ok (hS : TysOk T S) {ops : Array Oper} : ∀ {r : List Oper} {l : List Value} {H : AH} {Q : List Value → AH → Prop}, (r.all fun o => o.op.operands.toList.all okOperand) = true → wpOps P T X S ops r l H Q → Wp.Os P T X ops r l H Q
  | [], _, _, _, _, h => Wp.Os.nil h
  | o :: r, l, H, Q, hok, h => by
    simp only [List.all_cons, Bool.and_eq_true] at hok
    rcases guardK_ok (o := o) h with ⟨h1, h2⟩ | ⟨h1, h2⟩
    · obtain ⟨n, v, H', h3, h4⟩ := wpOp_ok hS h2
      refine Wp.Os.one (n := n) ?_ (wpOps_ok hS hok.2 (putK_eq h4))
      simp only [evOneW, h1, hok.1, if_true]
      exact h3
    · exact Wp.Os.pass h1 (wpOps_ok hS hok.2 (putK_eq h2))

theorem seqQ_ok {Q : Ex → List Value → AH → Prop} {K K' : List Value → AH → Prop} (hk : ∀ l H, K l H → K' l H) {e : Ex} {l : List Value} {H : AH} (h : seqQ Q K e l H) : thenN Q K' e l H := by
  cases e with
  | normal => exact hk l H h
  | exit i => exact h
  | ret => exact h
theorem blkQ_ok {Q : Ex → List Value → AH → Prop} {id : Nat} {e : Ex} {l : List Value} {H : AH} (h : blkQ id Q e l H) : blockQ id Q e l H := by
  cases e with
  | normal => exact h
  | ret => exact h
  | exit i =>
    rcases iteK h with ⟨h1, h2⟩ | ⟨h1, h2⟩
    · have := Nat.eq_of_beq_eq_true h1
      subst this
      exact blk_x h2
    · refine blk_o ?_ h2
      intro e; subst e
      rw [Nat.beq_refl] at h1
      cases h1

/-- WHAT IS WORKED OUT SUFFICES. -/
theorem wpC_ok (hS : TysOk T S) : ∀ {c : Code} {l : List Value} {H : AH} {Q : Ex → List Value → AH → Prop}, okC c = true → wpC P T X S c l H Q → W P T X c l H Q := by
  intro c
  induction c with
  | skip => intro l H Q _ h; exact W.skip h
  | ret => intro l H Q _ h; exact W.ret h
  | exit i => intro l H Q _ h; exact W.exit h
  | seq a b iha ihb =>
    intro l H Q hok h
    simp only [okC, Bool.and_eq_true] at hok
    exact W.seq ((iha hok.1 h).mono fun e l' H' hq => seqQ_ok (fun l H hk => ihb hok.2 hk) hq)
  | cond x a b iha ihb =>
    intro l H Q hok h
    simp only [okC, Bool.and_eq_true] at hok
    obtain ⟨t, h1, h2⟩ := boolK_eq (argK_eq h)
    refine W.cond h1 (fun ht => ?_) (fun ht => ?_)
    · subst ht; exact iha hok.1 h2
    · subst ht; exact ihb hok.2 h2
  | block id a iha =>
    intro l H Q hok h
    exact W.block ((iha hok h).mono fun e l' H' hq => blkQ_ok hq)
  | region pos ops d =>
    intro l H Q hok h
    cases d with
    | false => exact W.region (wpOps_ok hS hok h)
    | true =>
      have h : RawWp P T X (.region pos ops true) l H Q := h
      replace h := h.out
      exact h
  | loop a _ => intro l H Q _ h; have h : RawWp P T X (.loop a) l H Q := h; replace h := h.out; exact h
  | _ => intro l H Q _ h; have h : RawWp P T X _ l H Q := h; replace h := h.out; exact h

end
end Go.Vc

namespace Go.Vc
open Go Go.Ev Go.Fv Go.Wp

section
variable {P : Program} {T : TT} {X : Prims} {S : Tys}

noncomputable def resK1 (S : Tys) (r : ResultVar) (l : List Value) (H : AH) (K : Value → Prop) : Prop :=
  match r with
  | .tmp t => nthK l t K
  | .cell a t => nthK l a fun p => ptrK p fun b o => tyK S t fun i => LoadWp i.ag i.sz H b o K
noncomputable def resK (S : Tys) (rs : List ResultVar) : List Value → AH → (List Value → Prop) → Prop :=
  List.rec (motive := fun _ => List Value → AH → (List Value → Prop) → Prop) (fun _ _ K => K [])
    (fun r _ ih l H K => resK1 S r l H fun v => Bool.rec (motive := fun _ => Prop) False (ih l H fun vs => K (v :: vs)) (notTuple v)) rs
noncomputable def retK (Q : Value → Prop) (vs : List Value) : Prop := List.rec (motive := fun _ => Prop) (Q (.tuple #[])) (fun v r _ => List.rec (motive := fun _ => Prop) (Q v) (fun _ _ _ => Q (.tuple vs.toArray)) r) vs
noncomputable def fnQ (S : Tys) (rs : List ResultVar) (Q : Value → AH → Prop) (e : Ex) (l : List Value) (H : AH) : Prop :=
  Ex.rec (motive := fun _ => Prop) (resK S rs l H (retK fun v => Q v H)) (fun _ => False) (resK S rs l H (retK fun v => Q v H)) e

theorem load_of (hS : TysOk T S) {t : Nat} {i : TI} (h : getB S t = some i) {H : AH} {b o : Nat} {K : Value → Prop} (hl : LoadWp i.ag i.sz H b o K) : ∃ v, loadV T H t (ptr b o) = some v ∧ K v := by
  replace hl := hl.out
  obtain ⟨c, e, h5, h6⟩ := hl
  have hi := hS t i h
  cases hag : i.ag with
  | true =>
    rw [hag] at h6
    simp only [if_true] at h6
    refine ⟨_, ?_, h6.2⟩
    simp only [loadV, ptr, h5, hi.ag, hag, hi.sz, if_pos h6.1]
  | false =>
    rw [hag] at h6
    simp only [Bool.false_eq_true, if_false] at h6
    obtain ⟨v, h7, h8⟩ := h6
    refine ⟨v, ?_, h8⟩
    simp only [loadV, ptr, h5, hi.ag, hag, h7]

theorem resK_ok (hS : TysOk T S) : ∀ {rs : List ResultVar} {l : List Value} {H : AH} {K : List Value → Prop}, resK S rs l H K → ∃ vs, resultsL T H l rs = some vs ∧ K vs
  | [], _, _, _, h => ⟨[], rfl, h⟩
  | .tmp t :: rs, l, H, K, h => by
    have h := nthK_eq (K := fun v => Bool.rec (motive := fun _ => Prop) False (resK S rs l H fun vs => K (v :: vs)) (notTuple v)) (l := l) (t := t) h
    rcases iteK h with ⟨h1, h2⟩ | ⟨_, h2⟩
    · obtain ⟨vs, h3, h4⟩ := resK_ok hS h2
      refine ⟨_ :: vs, ?_, h4⟩
      simp only [resultsL, resultV, h1, if_true, h3]; rfl
    · exact h2.elim
  | .cell a t :: rs, l, H, K, h => by
    have h := nthK_eq (l := l) (t := a) (K := fun p => ptrK p fun b o => tyK S t fun i => LoadWp i.ag i.sz H b o fun v => Bool.rec (motive := fun _ => Prop) False (resK S rs l H fun vs => K (v :: vs)) (notTuple v)) h
    obtain ⟨b, o, h1, h2⟩ := ptrK_eq h
    obtain ⟨i, h3, h4⟩ := tyK_eq h2
    obtain ⟨v, h5, h6⟩ := load_of hS h3 h4
    rcases iteK h6 with ⟨h7, h8⟩ | ⟨_, h8⟩
    · obtain ⟨vs, h9, h10⟩ := resK_ok hS h8
      refine ⟨v :: vs, ?_, h10⟩
      simp only [resultsL, resultV, h1, h5, h7, if_true, h9]; rfl
    · exact h8.elim

theorem retK_ok {Q : Value → Prop} {vs : List Value} (h : retK Q vs) : Q (resultOf vs) := by
  cases vs with
  | nil => exact h
  | cons v r => cases r <;> exact h

/-- Into a function. -/
theorem enter (hS : TysOk T S) {f : FuncId} {fn : Func} {c : Code} {args : List Value} {H : AH} {Q : Value → AH → Prop} (hX : X f = none) (hf : T.fn f = some fn) (hb : fn.body = some c) (hok : okC c = true)
    (h : padK (fn.ntmps - args.length) args fun l => wpC P T X S c l H (fnQ S fn.results.toList Q)) : C P T X f args H Q := by
  refine C.fn hX hf hb ((wpC_ok hS hok (padK_eq h)).mono fun e l' H' hq => ?_)
  cases e with
  | exit i => exact hq.elim
  | normal =>
    obtain ⟨vs, h1, h2⟩ := resK_ok hS (show resK S fn.results.toList l' H' (retK fun v => Q v H') from hq)
    exact ⟨fun i => (by intro h; cases h), vs, h1, retK_ok (Q := fun v => Q v H') h2⟩
  | ret =>
    obtain ⟨vs, h1, h2⟩ := resK_ok hS (show resK S fn.results.toList l' H' (retK fun v => Q v H') from hq)
    exact ⟨fun i => (by intro h; cases h), vs, h1, retK_ok (Q := fun v => Q v H') h2⟩

/-! ### steps -/
theorem lb {a b : Nat} (h : Nat.ble a b = true) : a ≤ b := Nat.le_of_ble_eq_true h

section
variable {H : AH} {b o n : Nat} {c vs : List Value} {e : TypeId} {v : Value}
theorem ld {K : Value → Prop} (hg : H.get b = some (.cells c e)) (hv : c[o]? = some v) (k : K v) : LoadWp false n H b o K := by
  constructor
  exact ⟨c, e, hg, v, hv, k⟩
theorem ldA {K : Value → Prop} (hg : H.get b = some (.cells c e)) (hn : o + n ≤ c.length) (hv : (c.drop o).take n = vs) (k : K (.agg vs.toArray)) : LoadWp true n H b o K := by
  constructor
  subst hv
  exact ⟨c, e, hg, hn, k⟩
theorem st {K : AH → Prop} (hg : H.get b = some (.cells c e)) (h1 : vs.length = n) (h2 : o + n ≤ c.length) (h3 : vs.all one1 = true) (k : K (H.set b (.cells (setMany c o vs) e))) : StoreWp n H b o vs K := by
  constructor
  exact ⟨c, e, hg, h1, h2, h3, k⟩
theorem al {K : Nat → AH → Prop} (h : c.all one1 = true) (k : K H.next (H.alloc (.cells c e))) : AllocWp H c e K := by
  constructor
  exact ⟨h, k⟩
/-- A new block; memory has grown. -/
theorem al' {K : Nat → AH → Prop} (h : c.all one1 = true) (k : ∀ b H', Ext H H' → b = H.next → H'.next = b + 1 → H'.get b = some (.cells c e) → K b H') : AllocWp H c e K :=
  al h (k _ _ (Ext.alloc H _) rfl rfl (AH.get_alloc_same H _))
theorem cmp {p : Prop} {K : Bool → Prop} (h1 : p → K true) (h2 : ¬ p → K false) : CmpWp p K := by
  constructor
  exact ⟨h1, h2⟩
theorem ct {p : Prop} {K : Bool → Prop} (h : p) (k : K true) : CmpWp p K := cmp (fun _ => k) fun hn => absurd h hn
theorem cf {p : Prop} {K : Bool → Prop} (h : ¬ p) (k : K false) : CmpWp p K := cmp (fun hn => absurd hn h) fun _ => k
theorem su {p A : Prop} (h : p) (k : A) : SureWp p A := by
  constructor
  exact ⟨h, k⟩
theorem ix {i : Int} {j : Nat} {K : Nat → Prop} (h : i = j) (hj : j < n) (k : K j) : IndexWp n i K := by
  constructor
  exact ⟨j, h, hj, k⟩
theorem cl {f : FuncId} {args : List Value} {Q : Value → AH → Prop} {K : Value → AH → Prop} (h : C P T X f args H Q) (k : ∀ v H', Q v H' → K v H') : CallWp P T X f args H K := by
  constructor
  exact h.mono k
theorem yl {f : Nat} {args : List Value} {Q : Value → AH → Prop} {K : Value → AH → Prop} (h : Y P T X f args H Q) (k : ∀ v H', Q v H' → K v H') : YieldWp P T X f args H K := by
  constructor
  exact h.mono k
theorem ev {op : Op} {l : List Value} {K : Value → AH → Prop} {H' : AH} (h : evOp P T (envL l) op H = some (v, H')) (k : K v H') : EvWp P T op l H K := by
  constructor
  exact ⟨v, H', h, k⟩
theorem raw {cd : Code} {l : List Value} {Q : Ex → List Value → AH → Prop} (h : W P T X cd l H Q) : RawWp P T X cd l H Q := by
  constructor
  exact h
end
end

/-! ### the table of types -/
noncomputable def allB {α : Type} (p : Nat → α → Bool) (t : Bt α) : Nat → Nat → Bool :=
  Bt.rec (motive := fun _ => Nat → Nat → Bool) (fun _ _ => true) (fun v _ _ ihl ihr a b => and (p b v) (and (ihl (2 * a) (a + b)) (ihr (2 * a) (2 * a + b)))) t
theorem allB_get {α : Type} {p : Nat → α → Bool} : ∀ {t : Bt α} {a b : Nat}, allB p t a b = true → ∀ k v, getB t k = some v → p (a * k + b) v = true
  | .lf, _, _, _, _, _, h => by cases h
  | .nd x l r, a, b, h, k, v, hv => by
    have h : (p b x && (allB p l (2 * a) (a + b) && allB p r (2 * a) (2 * a + b))) = true := h
    simp only [Bool.and_eq_true] at h
    cases k with
    | zero =>
      have hv : some x = some v := hv
      cases hv
      simpa using h.1
    | succ j =>
      have hv : Nat.rec (motive := fun _ => Option α) (getB l (Nat.div j 2)) (fun _ _ => getB r (Nat.div j 2)) (Nat.mod j 2) = some v := hv
      have hd : Nat.div j 2 = j / 2 := rfl
      have hm : Nat.mod j 2 = j % 2 := rfl
      rw [hd, hm] at hv
      rcases Nat.mod_two_eq_zero_or_one j with e | e
      · rw [e] at hv
        have := allB_get h.2.1 _ _ hv
        have e2 : a * (j + 1) + b = 2 * a * (j / 2) + (a + b) := by
          have : j = 2 * (j / 2) := by omega
          rw [Nat.mul_assoc, Nat.mul_left_comm, ← this]
          rw [Nat.mul_add]; omega
        rw [e2]; exact this
      · rw [e] at hv
        have := allB_get h.2.2 _ _ hv
        have e2 : a * (j + 1) + b = 2 * a * (j / 2) + (2 * a + b) := by
          obtain ⟨m, rfl⟩ : ∃ m, j = 2 * m + 1 := ⟨j / 2, by omega⟩
          rw [show (2 * m + 1) / 2 = m by omega, Nat.mul_assoc, Nat.mul_left_comm 2 a, Nat.mul_add, Nat.mul_add]
          omega
        rw [e2]; exact this

noncomputable def eqON (a : Option Nat) (n : Nat) : Bool := Option.rec (motive := fun _ => Bool) false (fun m => Nat.beq m n) a
theorem eqON_eq {a : Option Nat} {n : Nat} (h : eqON a n = true) : a = some n := by
  cases a with
  | none => cases h
  | some m => exact congrArg some (Nat.eq_of_beq_eq_true h)
noncomputable def eqOb (a : Option Bool) (n : Bool) : Bool := Option.rec (motive := fun _ => Bool) false (fun m => eqBool m n) a
theorem eqOb_eq {a : Option Bool} {n : Bool} (h : eqOb a n = true) : a = some n := by
  cases a with
  | none => cases h
  | some m => exact congrArg some (eqBool_eq h)
noncomputable def chkFs (T : TT) : List Field → List (Nat × Nat × Bool) → Bool
  | [], [] => true
  | fd :: fs, f :: r => and (Nat.beq fd.offset f.1) (and (eqON (szT T fd.type) f.2.1) (and (eqOb (aggT T fd.type) f.2.2) (chkFs T fs r)))
  | _, _ => false
theorem chkFs_ok {T : TT} : ∀ {fs : List Field} {r : List (Nat × Nat × Bool)}, chkFs T fs r = true → r.length = fs.length ∧ ∀ (j : Nat) (f : Nat × Nat × Bool), r[j]? = some f → ∃ fd, fs[j]? = some fd ∧ fd.offset = f.1 ∧ szT T fd.type = some f.2.1 ∧ aggT T fd.type = some f.2.2
  | [], [], _ => ⟨rfl, fun j f h => by simp at h⟩
  | [], _ :: _, h => by cases h
  | _ :: _, [], h => by cases h
  | fd :: fs, f :: r, h => by
    simp only [chkFs, Bool.and_eq_true] at h
    obtain ⟨h1, h2, h3, h4⟩ := h
    obtain ⟨h5, h6⟩ := chkFs_ok h4
    refine ⟨by simp [h5], fun j f' hj => ?_⟩
    cases j with
    | zero =>
      simp only [List.getElem?_cons_zero, Option.some.injEq] at hj
      subst hj
      exact ⟨fd, rfl, Nat.eq_of_beq_eq_true h1, eqON_eq h2, eqOb_eq h3⟩
    | succ j => simpa using h6 j f' (by simpa using hj)

noncomputable def chkTI (T : TT) (t : Nat) (i : TI) : Bool :=
  and (eqON (szT T t) i.sz) (and (and (eqOb (aggT T t) i.ag) (match T.inf t with | some x => and (Nat.beq x.size i.sz) (Nat.beq x.bytes i.bytes) | none => false)) (and
    (match i.row with
     | .no => true
     | .array n sz => match T.und t with | some (.array m e) => and (Nat.beq m n) (eqON (szT T e) sz) | _ => false
     | .slice e0 sz => match T.und t with | some (.slice e) => and (Nat.beq e e0) (eqON (szT T e) sz) | _ => false
     | .ptr => match T.und t with | some (.pointer _) => true | _ => false
     | .map => match T.und t with | some (.map _ _) => true | _ => false
     | .func => match T.und t with | some (.func _ _ _) => true | _ => false
     | .int k => match T.und t with | some (.int j) => Nat.beq (kindN j) (kindN k) | _ => false)
    (and (match i.fs with | [] => true | f :: r => match T.und t with | some (.struct fs) => chkFs T fs.toList (f :: r) | _ => false)
      (match i.z with | [] => true | z => match zeroT T t with | some c => eqLs eq0 c (zeroL z) | none => false))))
theorem chkTI_ok {T : TT} {t : Nat} {i : TI} (h : chkTI T t i = true) : TIOk T t i := by
  simp only [chkTI, Bool.and_eq_true] at h
  obtain ⟨h1, h2, h3, h4, h5⟩ := h
  refine ⟨eqON_eq h1, ?_, eqOb_eq h2.1, ?_, fun hne => ?_, fun hne => ?_⟩
  · have h2 := h2.2
    split at h2
    · rename_i x hx
      simp only [Bool.and_eq_true] at h2
      exact ⟨x, hx, Nat.eq_of_beq_eq_true h2.1, Nat.eq_of_beq_eq_true h2.2⟩
    · cases h2
  · split at h3 <;> rename_i hr <;> (try rw [hr])
    · trivial
    · split at h3
      · rename_i m e hu
        simp only [Bool.and_eq_true] at h3
        exact ⟨e, by rw [hu, Nat.eq_of_beq_eq_true h3.1], eqON_eq h3.2⟩
      · cases h3
    · split at h3
      · rename_i e hu
        simp only [Bool.and_eq_true] at h3
        have := Nat.eq_of_beq_eq_true h3.1
        subst this
        exact ⟨hu, eqON_eq h3.2⟩
      · cases h3
    · split at h3
      · rename_i e hu; exact ⟨e, hu⟩
      · cases h3
    · split at h3
      · rename_i k e hu; exact ⟨k, e, hu⟩
      · cases h3
    · split at h3
      · rename_i a b c hu; exact ⟨a, b, c, hu⟩
      · cases h3
    · split at h3
      · rename_i j hu
        show T.und t = _
        rw [hu, kindN_inj h3]
      · cases h3
  · cases hf : i.fs with
    | nil => exact absurd hf hne
    | cons f r =>
      rw [hf] at h4
      dsimp only at h4
      split at h4
      · rename_i fs hu
        obtain ⟨h6, h7⟩ := chkFs_ok h4
        refine ⟨fs, hu, by rw [h6]; simp, fun j g hj => ?_⟩
        obtain ⟨fd, h8, h9⟩ := h7 j g hj
        rw [Array.getElem?_toList] at h8
        exact ⟨fd, h8, h9⟩
      · cases h4
  · split at h5
    · rename_i hz; exact absurd hz hne
    · split at h5
      · rename_i c hz
        rw [hz, eqLs_eq (fun _ _ => eq0_eq) h5]
      · cases h5
theorem tys_ok {T : TT} {S : Tys} (h : allB (chkTI T) S 1 0 = true) : TysOk T S := fun t i hi => by
  have := allB_get h t i hi
  rw [Nat.one_mul, Nat.add_zero] at this
  exact chkTI_ok this
end Go.Vc

namespace Go.Vc
open Go Go.Ev Go.Fv Go.Wp

/-- Blocks that are there, as they are said. -/
def Stab (N : Nat) (L : List (Nat × AObj)) (H : AH) : Prop := N ≤ H.next ∧ ∀ x ∈ L, x.1 < N ∧ H.get x.1 = some x.2
theorem Stab.ext {N : Nat} {L : List (Nat × AObj)} {H H' : AH} (h : Stab N L H) (hx : Ext H H') : Stab N L H' :=
  ⟨Nat.le_trans h.1 hx.1, fun x hm => ⟨(h.2 x hm).1, hx.get (Nat.lt_of_lt_of_le (h.2 x hm).1 h.1) (h.2 x hm).2⟩⟩
theorem Stab.nil {H : AH} : Stab H.next [] H := ⟨Nat.le_refl _, fun _ h => by cases h⟩
theorem Stab.cons {H : AH} {b : Nat} {o : AObj} {L : List (Nat × AObj)} (hb : b < H.next) (hg : H.get b = some o) (h : Stab H.next L H) : Stab H.next ((b, o) :: L) H :=
  ⟨Nat.le_refl _, fun x hm => by
    rcases List.mem_cons.1 hm with rfl | hm
    · exact ⟨hb, hg⟩
    · exact h.2 x hm⟩

section
variable (P : Program) (T : TT) (X : Prims) (S : Tys)

structure DLoadWp (ag : Bool) (n : Nat) (L : List (Nat × AObj)) (b o : Nat) (K : Value → Prop) : Prop where
  out : ∃ c e, (b, AObj.cells c e) ∈ L ∧ if ag then o + n ≤ c.length ∧ eqV (.agg ((c.drop o).take n).toArray) (.agg ((c.drop o).take n).toArray) = true ∧ K (.agg ((c.drop o).take n).toArray)
    else ∃ v, c[o]? = some v ∧ eqV v v = true ∧ K v
structure DLenWp (N : Nat) (v : Value) (A : Prop) : Prop where
  out : belowV N v = true ∧ A
structure BelWp (n : Nat) (vs : List Value) (A : Prop) : Prop where
  out : (vs.all fun v => belowV n v) = true ∧ A
structure KeepWp (N : Nat) (L : List (Nat × AObj)) (H H' : AH) (A : Prop) : Prop where
  out : Stab N L H' ∧ H.next ≤ H'.next ∧ A

noncomputable def wpD (N : Nat) (L : List (Nat × AObj)) (o : Op) (l : List Value) (H : AH) (K : Value → AH → Prop) : Prop :=
  match o with
  | .load t a => argK l a fun p => ptrK p fun b o => tyK S t fun i => DLoadWp i.ag i.sz L b o fun v => K v H
  | .call { callee := .builtin .len, args, argTypes } => Option.rec (motive := fun _ => Prop) False (fun x => Option.rec (motive := fun _ => Prop) False (fun t => Bool.rec (motive := fun _ => Prop) False (tyK S t fun i => match i.row with
      | .slice _ _ => argK l x fun v => sliK v fun _ n _ => DLenWp N v (K (.int .i64 n) H)
      | _ => False) (Nat.beq args.size 1)) argTypes[0]?) args[0]?
  | .lookup .. => False
  | o => Bool.rec (motive := fun _ => Prop) (argsK l o.operands.toList fun vs => BelWp H.next vs (wpOp P T X S o l H fun v H' => KeepWp N L H H' (K v H'))) (wpOp P T X S o l H fun v _ => K v H) (pureOp o)

noncomputable def wpDOps (N : Nat) (L : List (Nat × AObj)) (ops : Array Oper) (r : List Oper) : List Value → AH → (List Value → AH → Prop) → Prop :=
  List.rec (motive := fun _ => List Value → AH → (List Value → AH → Prop) → Prop) (fun l H Q => Q l H)
    (fun o _ ih l H Q => guardK ops l o.guard (wpD P T X S N L o.op l H fun v H' => putK l o.dst v fun l' => ih l' H' Q) (putK l o.dst undef fun l' => ih l' H Q)) r
end

section
variable {P : Program} {T : TT} {X : Prims} {S : Tys}

/-- A single operation's run, in a region that draws its order. -/
def RunD (P : Program) (T : TT) (X : Prims) (N : Nat) (L : List (Nat × AObj)) (o : Op) (l : List Value) (H : AH) (K : Value → AH → Prop) : Prop :=
  ∃ n v H', evOperW P T X (evCode P T X n) (envL l) o H = some (v, H') ∧ K v H' ∧ Stab N L H' ∧ H.next ≤ H'.next ∧
    (stillOp o = false → (o.operands.toList.all fun x => belowV H.next (envL l x)) = true) ∧
    (stillOp o = true → pureOp o = false → ∀ H2, Stab N L H2 → (∃ H3, evOp P T (envL l) o H2 = some (v, H3)) ∧ eqV v v = true ∧ (o.operands.toList.all fun x => belowV H2.next (envL l x)) = true)

theorem below_le {n m : Nat} (h : n ≤ m) : ∀ {v : Value}, belowV n v = true → belowV m v = true := by
  have hb : ∀ {k}, Nat.blt k n = true → Nat.blt k m = true := fun {k} hk => by
    rw [Nat.blt_eq] at hk ⊢
    omega
  have h0 : ∀ {v}, below0 n v = true → below0 m v = true := fun {v} => by
    cases v <;> first | exact fun _ => rfl | (rename_i a; cases a <;> first | exact fun _ => rfl | exact hb) | (rename_i a _ _; cases a <;> first | exact fun _ => rfl | exact hb)
  have h1 : ∀ {v}, below1 n v = true → below1 m v = true := fun {v} => by
    have other : (∀ f x c, v ≠ .func f x c) → below1 n v = true → below1 m v = true := fun hne hv => by
      have e : ∀ k, below1 k v = below0 k v := fun k => by
        cases v <;> first | rfl | exact absurd rfl (hne _ _ _)
      rw [e] at hv ⊢
      exact h0 hv
    by_cases hf : ∃ f x c, v = .func f x c
    · obtain ⟨f, x, cap, rfl⟩ := hf
      have key : (cap.toList.all (below0 n)) = true → (cap.toList.all (below0 m)) = true := fun hv => by
        simp only [List.all_eq_true] at hv ⊢
        exact fun x hx => h0 (hv x hx)
      cases f <;> first | exact key | exact hb
    · exact other fun f x c e => hf ⟨f, x, c, e⟩
  have h2 : ∀ {v}, belowA n v = true → belowA m v = true := fun {v} => by
    by_cases hf : ∃ c, v = .agg c
    · obtain ⟨c, rfl⟩ := hf
      intro hv
      have hv : (c.toList.all (below1 n)) = true := hv
      show (c.toList.all (below1 m)) = true
      simp only [List.all_eq_true] at hv ⊢
      exact fun x hx => h1 (hv x hx)
    · have e : ∀ k, belowA k v = below1 k v := fun k => by
        cases v <;> first | rfl | exact absurd ⟨_, rfl⟩ hf
      rw [e, e]
      exact h1
  intro v
  by_cases hf : ∃ c, v = .tuple c
  · obtain ⟨c, rfl⟩ := hf
    intro hv
    have hv : (c.toList.all (belowA n)) = true := hv
    show (c.toList.all (belowA m)) = true
    simp only [List.all_eq_true] at hv ⊢
    exact fun x hx => h2 (hv x hx)
  · have e : ∀ k, belowV k v = belowA k v := fun k => by
      cases v <;> first | rfl | exact absurd ⟨_, rfl⟩ hf
    rw [e, e]
    exact h2

theorem load_deep {ag : Bool} {n : Nat} {L : List (Nat × AObj)} {b o : Nat} {K : Value → Prop} {t : TypeId} {i : TI} (hS : TysOk T S) (hi : getB S t = some i) (hag : i.ag = ag) (hsz : i.sz = n) (h : DLoadWp ag n L b o K) :
    ∃ v, K v ∧ eqV v v = true ∧ (∃ c e, (b, AObj.cells c e) ∈ L) ∧ ∀ {N : Nat} {H : AH} {l : List Value} {a : Operand}, Stab N L H → envL l a = ptr b o → evOp P T (envL l) (.load t a) H = some (v, H) := by
  replace h := h.out
  obtain ⟨c, e, hm, h⟩ := h
  have ht := hS t i hi
  cases ag with
  | true =>
    simp only [if_true] at h
    obtain ⟨h1, h2, h3⟩ := h
    exact ⟨_, h3, h2, ⟨c, e, hm⟩, fun hst ha => ev_loadA ha (hst.2 _ hm).2 (by rw [ht.ag, hag]) (by rw [ht.sz, hsz]) h1 rfl⟩
  | false =>
    simp only [Bool.false_eq_true, if_false] at h
    obtain ⟨v, h1, h2, h3⟩ := h
    exact ⟨v, h3, h2, ⟨c, e, hm⟩, fun hst ha => ev_load ha (hst.2 _ hm).2 (by rw [ht.ag, hag]) h1⟩

theorem wpD_ok (hS : TysOk T S) {N : Nat} {L : List (Nat × AObj)} {o : Op} {l : List Value} {H : AH} {K : Value → AH → Prop} (hst : Stab N L H) (h : wpD P T X S N L o l H K) : RunD P T X N L o l H K := by
  have other : Bool.rec (motive := fun _ => Prop) (argsK l o.operands.toList fun vs => BelWp H.next vs (wpOp P T X S o l H fun v H' => KeepWp N L H H' (K v H'))) (wpOp P T X S o l H fun v _ => K v H) (pureOp o) → (stillOp o = true → pureOp o = true) → RunD P T X N L o l H K := by
    intro h hsp
    rcases iteK h with ⟨hp, h⟩ | ⟨hp, h⟩
    · obtain ⟨n, v, H', h1, h2⟩ := wpOp_ok hS h
      have hst' : stillOp o = true := by
        unfold pureOp at hp
        split at hp <;> first | exact hp | cases hp
      have h1' := h1
      rw [still_oper hst'] at h1'
      have := still_same hst' h1'
      subst this
      exact ⟨n, v, _, h1, h2, hst, Nat.le_refl _, fun h => (by rw [hst'] at h; cases h), fun _ h => (by rw [hp] at h; cases h)⟩
    · have h := argsK_eq (K := fun vs => BelWp H.next vs (wpOp P T X S o l H fun v H' => KeepWp N L H H' (K v H'))) h
      replace h := h.out
      obtain ⟨hb, h⟩ := h
      obtain ⟨n, v, H', h1, h2⟩ := wpOp_ok hS h
      replace h2 := h2.out
      obtain ⟨h2, h3, h4⟩ := h2
      refine ⟨n, v, H', h1, h4, h2, h3, fun _ => ?_, fun hs hp' => ?_⟩
      · rw [List.all_map] at hb
        exact hb
      · rw [hsp hs] at hp; cases hp
  unfold wpD at h
  split at h
  · rename_i t a
    obtain ⟨b, o, h1, h2⟩ := ptrK_eq (argK_eq h)
    obtain ⟨i, h3, h4⟩ := tyK_eq h2
    obtain ⟨v, h5, h6, ⟨c, e, hm⟩, h7⟩ := load_deep (P := P) (T := T) hS h3 rfl rfl h4
    refine ⟨0, v, H, ?_, h5, hst, Nat.le_refl _, fun h => (by cases h), fun _ _ H2 hst2 => ⟨⟨H2, h7 hst2 h1⟩, h6, ?_⟩⟩
    · rw [plain_oper rfl]; exact h7 hst h1
    · have hb := (hst2.2 _ hm).1
      show ((#[a] : Array Operand).toList.all fun x => belowV H2.next (envL l x)) = true
      simp only [List.all_cons, List.all_nil, Bool.and_true]
      rw [h1]
      exact below_ptr (Nat.lt_of_lt_of_le hb hst2.1)
  · rename_i args ts
    cases ha : args[0]? with
    | none => rw [ha] at h; exact h.elim
    | some x =>
      rw [ha] at h
      cases ht : ts[0]? with
      | none => rw [ht] at h; exact h.elim
      | some t =>
        rw [ht] at h
        rcases iteK h with ⟨h1, h2⟩ | ⟨_, h2⟩
        · have h1 := Nat.eq_of_beq_eq_true h1
          have hargs : args = #[x] := by
            apply Array.ext_getElem?
            intro j
            cases j with
            | zero => rw [ha]; rfl
            | succ j => rw [Array.getElem?_eq_none (by omega)]; simp
          subst hargs
          obtain ⟨i, h3, h4⟩ := tyK_eq h2
          have hr := (hS t i h3).row
          split at h4
          · rename_i e sz hrow
            rw [hrow] at hr
            obtain ⟨h5, _⟩ := hr
            have h4 := argK_eq h4
            obtain ⟨a, n, c, h7, h8⟩ := sliK_eq (K := fun _ n _ => DLenWp N (envL l x) (K (.int .i64 n) H)) h4
            replace h8 := h8.out
            refine ⟨0, _, H, ?_, h8.2, hst, Nat.le_refl _, fun h => (by cases h), fun _ _ H2 hst2 => ⟨⟨H2, ev_len ht h5 h7⟩, eqV_int _ _, ?_⟩⟩
            · rw [plain_oper rfl]; exact ev_len ht h5 h7
            · show ((#[x] : Array Operand).toList.all fun x => belowV H2.next (envL l x)) = true
              simp only [List.all_cons, List.all_nil, Bool.and_true]
              exact below_le hst2.1 h8.1
          · exact h4.elim
        · exact h2.elim
  · exact h.elim
  · rename_i h1 h2 h3
    refine other h fun hs => ?_
    unfold pureOp
    split
    · exact (h1 _ _ rfl).elim
    · exact (h3 _ _ _ _ rfl).elim
    · exact (h2 _ _ rfl).elim
    · exact hs

/-- What is said of each step of a region that draws its order. -/
def StepOk (P : Program) (T : TT) (N : Nat) (L : List (Nat × AObj)) (ops : Array Oper) (o : Oper) (s : St) (v : Value) : Prop :=
  Stab N L s.heap ∧ (stillOp o.op = false → wantedL ops s.tmps o = true → (o.op.operands.toList.all fun x => belowV s.heap.next (envL s.tmps x)) = true) ∧
    (stillOp o.op = true → pureOp o.op = false → wantedL ops s.tmps o = true → ∀ H2, Stab N L H2 → (∃ H3, evOp P T (envL s.tmps) o.op H2 = some (v, H3)) ∧ eqV v v = true ∧ (o.op.operands.toList.all fun x => belowV H2.next (envL s.tmps x)) = true)

theorem ahead_cons {s : St} {v : Value} {tr : List (St × Value)} {last : St} (i : Nat) : heapAhead ((s, v) :: tr) last (i + 1) = heapAhead tr last i := by
  unfold heapAhead
  rw [List.getElem?_cons_succ]

theorem wpDOps_ok (hS : TysOk T S) {N : Nat} {L : List (Nat × AObj)} {ops : Array Oper} : ∀ {r : List Oper} {l : List Value} {H : AH} {Q : List Value → AH → Prop}, Stab N L H → (r.all fun o => o.op.operands.toList.all okOperand) = true → wpDOps P T X S N L ops r l H Q →
    ∃ n tr l' H', traceW P T X (evCode P T X n) ops r ⟨l, H⟩ = some (tr, ⟨l', H'⟩) ∧ tr.length = r.length ∧ Stab N L H' ∧ heapAhead tr ⟨l', H'⟩ 0 = H ∧
      (∀ (i : Nat) (s : St) (v : Value), tr[i]? = some (s, v) → s.heap.next ≤ (heapAhead tr ⟨l', H'⟩ (i + 1)).next ∧ ∃ o, r[i]? = some o ∧ StepOk P T N L ops o s v) ∧ Q l' H'
  | [], l, H, Q, hst, _, h => ⟨0, [], l, H, rfl, rfl, hst, rfl, fun i s v hi => by simp at hi, h⟩
  | o :: r, l, H, Q, hst, hok, h => by
    simp only [List.all_cons, Bool.and_eq_true] at hok
    rcases guardK_ok (o := o) h with ⟨h1, h2⟩ | ⟨h1, h2⟩
    · obtain ⟨n, v, H1, h3, h4, h5, h6, h7, h8⟩ := wpD_ok hS hst h2
      obtain ⟨m, tr, l', H', k1, k2, k3, k4, k5, k6⟩ := wpDOps_ok hS h5 hok.2 (putK_eq h4)
      have g1 : evOneW P T X (evCode P T X n) ops o ⟨l, H⟩ = some (v, H1) := by simp only [evOneW, h1, hok.1, if_true]; exact h3
      have g2 := evOneW_le (evCode_le (P := P) (T := T) (X := X) (Nat.le_max_left n m)) g1
      have g3 := traceW_le (evCode_le (P := P) (T := T) (X := X) (Nat.le_max_right n m)) k1
      refine ⟨max n m, (⟨l, H⟩, v) :: tr, l', H', ?_, by simp [k2], k3, rfl, fun i s v' hi => ?_, k6⟩
      · show (match evOneW P T X (evCode P T X (max n m)) ops o ⟨l, H⟩ with
          | some (v, H') => (match traceW P T X (evCode P T X (max n m)) ops r ⟨putL l o.dst v, H'⟩ with | some (tr, s') => some (((⟨l, H⟩ : St), v) :: tr, s') | none => none)
          | none => none) = _
        rw [g2]; dsimp only; rw [g3]
      · rw [ahead_cons]
        cases i with
        | zero =>
          simp only [List.getElem?_cons_zero, Option.some.injEq, Prod.mk.injEq] at hi
          obtain ⟨rfl, rfl⟩ := hi
          rw [k4]
          exact ⟨h6, o, rfl, hst, fun hs _ => h7 hs, fun hs hp _ => h8 hs hp⟩
        | succ i =>
          obtain ⟨g4, o', g5, g6⟩ := k5 i s v' (by simpa using hi)
          exact ⟨g4, o', by simpa using g5, g6⟩
    · obtain ⟨m, tr, l', H', k1, k2, k3, k4, k5, k6⟩ := wpDOps_ok hS hst hok.2 (putK_eq h2)
      refine ⟨m, (⟨l, H⟩, undef) :: tr, l', H', ?_, by simp [k2], k3, rfl, fun i s v' hi => ?_, k6⟩
      · show (match evOneW P T X (evCode P T X m) ops o ⟨l, H⟩ with
          | some (v, H') => (match traceW P T X (evCode P T X m) ops r ⟨putL l o.dst v, H'⟩ with | some (tr, s') => some (((⟨l, H⟩ : St), v) :: tr, s') | none => none)
          | none => none) = _
        have g1 : evOneW P T X (evCode P T X m) ops o ⟨l, H⟩ = some (undef, H) := by simp only [evOneW, h1]; rfl
        rw [g1]; dsimp only; rw [k1]
      · rw [ahead_cons]
        cases i with
        | zero =>
          simp only [List.getElem?_cons_zero, Option.some.injEq, Prod.mk.injEq] at hi
          obtain ⟨rfl, rfl⟩ := hi
          rw [k4]
          refine ⟨Nat.le_refl _, o, rfl, hst, fun _ hw => ?_, fun _ _ hw => ?_⟩
          · rw [h1] at hw; cases hw
          · rw [h1] at hw; cases hw
        | succ i =>
          obtain ⟨g4, o', g5, g6⟩ := k5 i s v' (by simpa using hi)
          exact ⟨g4, o', by simpa using g5, g6⟩

/-- A REGION THAT DRAWS ITS ORDER, where what it looks at stays as it is. -/
theorem drw (hS : TysOk T S) {N : Nat} {L : List (Nat × AObj)} {pos : Nat} {ops : Array Oper} {l : List Value} {H : AH} {Q : Ex → List Value → AH → Prop} (hst : Stab N L H) (hok : okOps ops = true)
    (h : wpDOps P T X S N L ops ops.toList l H (Q .normal)) : RawWp P T X (.region pos ops true) l H Q := by
  constructor
  obtain ⟨n, tr, l', H', h1, h2, h3, h4, h5, h6⟩ := wpDOps_ok hS hst hok h
  have hH : ∀ i, Stab N L (heapAhead tr ⟨l', H'⟩ i) := fun i => by
    unfold heapAhead
    split
    · rename_i s v hi
      obtain ⟨_, o, _, k, _⟩ := h5 i s v hi
      exact k
    · exact h3
  have hsteady : steadyW P T ops tr ⟨l', H'⟩ = true := by
    unfold steadyW
    rw [List.all_eq_true]
    intro i hi
    have hi : i < ops.size := by simpa using hi
    have hi' : i < tr.length := by rw [h2]; simpa using hi
    obtain ⟨_, o', k1, k2, k3, k4⟩ := h5 i tr[i].1 tr[i].2 (by simp [hi'])
    rw [Array.getElem?_toList] at k1
    have e : tr[i]? = some (tr[i].1, tr[i].2) := by simp [hi']
    rw [k1, e]
    dsimp only
    split
    · rename_i hc
      simp only [Bool.and_eq_true, Bool.not_eq_true'] at hc
      rw [List.all_eq_true]
      intro p _
      split
      · obtain ⟨⟨H3, g1⟩, g2, g3⟩ := k4 hc.1.1 hc.1.2 hc.2 _ (hH p)
        rw [g1]
        dsimp only
        rw [g2, g3]; rfl
      · rfl
    · rfl
  have htidy : tidyW ops tr ⟨l', H'⟩ = true := by
    unfold tidyW
    rw [List.all_eq_true]
    intro i hi
    have hi : i < ops.size := by simpa using hi
    have hi' : i < tr.length := by rw [h2]; simpa using hi
    obtain ⟨k0, o', k1, k2, k3, k4⟩ := h5 i tr[i].1 tr[i].2 (by simp [hi'])
    rw [Array.getElem?_toList] at k1
    have e : tr[i]? = some (tr[i].1, tr[i].2) := by simp [hi']
    rw [k1, e]
    dsimp only
    rw [Bool.and_eq_true, Nat.ble_eq]
    refine ⟨k0, ?_⟩
    cases hs : stillOp o'.op with
    | true => rfl
    | false =>
      cases hw : wantedL ops tr[i].1.tmps o' with
      | false => rfl
      | true =>
        have := k3 hs hw
        simp only [Bool.false_or, Bool.not_true]
        exact this
  refine ⟨n + 1, .normal, ⟨l', H'⟩, ?_, h6⟩
  show (evRegionW P T X (evCode P T X n) ops true ⟨l, H⟩).map _ = _
  have : evRegionW P T X (evCode P T X n) ops true ⟨l, H⟩ = some ⟨l', H'⟩ := by
    unfold evRegionW
    rw [if_pos rfl, h1]
    simp only [hsteady, htidy, Bool.and_self, if_true]
  rw [this]; rfl

/-- Kinds of scalars of which each is equal to itself. -/
def refl1 : Value → Bool
  | .bool _ | .int _ _ | .string _ | .pointer _ | .slice _ _ _ | .map _ | .chan _ | .nilFunc | .nilIface => true
  | _ => false
theorem eq1_refl {v : Value} (h : refl1 v = true) : eq1 v v = true := by
  cases v <;> first | (cases h; done) | simp [eq1]
theorem eqV_one {v : Value} (h : refl1 v = true) : eqV v v = true := by
  cases v <;> first | (cases h; done) | simp [eqV, eq1]
theorem eqV_agg {vs : List Value} (h : vs.all refl1 = true) : eqV (.agg vs.toArray) (.agg vs.toArray) = true := by
  have key : ∀ l : List Value, l.all refl1 = true → eqL l l = true := by
    intro l
    induction l with
    | nil => intro _; rfl
    | cons v l ih =>
      intro h
      simp only [List.all_cons, Bool.and_eq_true] at h
      simp only [eqL, eq1_refl h.1, ih h.2, Bool.and_self]
  have := key vs h
  simpa [eqV] using this

/-! ### steps -/
section
variable {N : Nat} {L : List (Nat × AObj)} {H H' : AH} {b o n : Nat} {c vs : List Value} {e : TypeId} {v : Value}
theorem dld {K : Value → Prop} (hm : (b, AObj.cells c e) ∈ L) (hv : c[o]? = some v) (he : refl1 v = true) (k : K v) : DLoadWp false n L b o K := by
  constructor
  exact ⟨c, e, hm, v, hv, eqV_one he, k⟩
theorem dldA {K : Value → Prop} (hm : (b, AObj.cells c e) ∈ L) (hn : o + n ≤ c.length) (hv : (c.drop o).take n = vs) (he : vs.all refl1 = true) (k : K (.agg vs.toArray)) : DLoadWp true n L b o K := by
  constructor
  subst hv
  exact ⟨c, e, hm, hn, eqV_agg he, k⟩
theorem dln {A : Prop} (h : belowV N v = true) (k : A) : DLenWp N v A := by
  constructor
  exact ⟨h, k⟩
theorem bel {A : Prop} (h : (vs.all fun v => belowV n v) = true) (k : A) : BelWp n vs A := by
  constructor
  exact ⟨h, k⟩
theorem keep {A : Prop} (hst : Stab N L H) (hx : Ext H H') (k : A) : KeepWp N L H H' A := by
  constructor
  exact ⟨hst.ext hx, hx.1, k⟩
theorem all_rowS {q : Value → Bool} {c vs : List Value} {o m : Nat} (h1 : c.all q = true) (h2 : vs.all q = true) : (rowS c o vs m).all q = true := by
  unfold rowS
  rw [takeS_eq, appS_eq, dropS_eq, List.all_append, List.all_append, h2]
  simp only [Bool.and_eq_true, Bool.true_and]
  exact ⟨List.all_eq_true.2 fun x hx => List.all_eq_true.1 h1 x (List.mem_of_mem_take hx), List.all_eq_true.2 fun x hx => List.all_eq_true.1 h1 x (List.mem_of_mem_drop hx)⟩
theorem all_arr {q : Value → Bool} {c : List Value} (h : c.all q = true) : c.toArray.toList.all q = true := h
theorem bel_agg {n : Nat} {c : List Value} (h : c.all (below1 n) = true) : belowV n (.agg c.toArray) = true := h
theorem all_one {q : Value → Bool} {v : Value} (h : q v = true) : [v].all q = true := by simp [h]
theorem bel_nil : (([] : List Value).all fun v => belowV n v) = true := rfl
theorem bel_cons {vs : List Value} (h : belowV n v = true) (k : (vs.all fun v => belowV n v) = true) : ((v :: vs).all fun v => belowV n v) = true := by
  simp only [List.all_cons, h, k, Bool.and_self]
end
end
end Go.Vc

namespace Go.Vc
open Go Go.Ev Go.Fv Go.Wp

/-- What some slots hold. -/
def Slots (l : List Value) : List (Nat × Value) → Prop
  | [] => True
  | p :: r => l.getD p.1 undef = p.2 ∧ Slots l r
noncomputable def lookK (kn : List (Nat × Value)) (j : Nat) (d : Value) (K : Value → Prop) : Prop :=
  List.rec (motive := fun _ => Prop) (K d) (fun p _ ih => Bool.rec (motive := fun _ => Prop) ih (K p.2) (Nat.beq p.1 j)) kn
theorem lookK_eq {j : Nat} {l : List Value} {K : Value → Prop} : ∀ {kn : List (Nat × Value)}, Slots l kn → lookK kn j (l.getD j undef) K → K (l.getD j undef)
  | [], _, h => h
  | p :: r, hs, h => by
    rcases iteK h with ⟨h1, h2⟩ | ⟨_, h2⟩
    · have := Nat.eq_of_beq_eq_true h1
      subst this
      rw [hs.1]; exact h2
    · exact lookK_eq (kn := r) hs.2 h2
/-- The slots one by one: those that are known, by what they hold. -/
noncomputable def mkK (kn : List (Nat × Value)) (l : List Value) (n : Nat) : Nat → (List Value → Prop) → Prop :=
  Nat.rec (motive := fun _ => Nat → (List Value → Prop) → Prop) (fun _ K => K []) (fun _ ih j K => lookK kn j (l.getD j undef) fun v => ih (Nat.succ j) (fun r => K (v :: r))) n
theorem mkK_eq {kn : List (Nat × Value)} {l : List Value} (hs : Slots l kn) : ∀ {n j : Nat} {K : List Value → Prop}, mkK kn l n j K → n + j = l.length → K (l.drop j)
  | 0, j, K, h, hn => by
    rw [List.drop_eq_nil_of_le (by omega)]; exact h
  | n + 1, j, K, h, hn => by
    have h1 := lookK_eq (K := fun v => mkK kn l n (Nat.succ j) (fun r => K (v :: r))) hs h
    have h2 := mkK_eq hs (n := n) (j := j + 1) (K := fun r => K (l.getD j undef :: r)) h1 (by omega)
    have hj : j < l.length := by omega
    rw [List.drop_eq_getElem_cons hj]
    have : l.getD j undef = l[j] := by rw [List.getD_eq_getElem?_getD, List.getElem?_eq_getElem hj]; rfl
    rw [this] at h2
    exact h2

section
variable {P : Program} {T : TT} {X : Prims} {S : Tys}
/-- A loop: ι says where it is; kn what the slots hold there; I what holds of memory; a number falls with each turn. -/
theorem lp (hS : TysOk T S) {a : Code} {l : List Value} {H : AH} {Q : Ex → List Value → AH → Prop} {ι : Type} (m : Nat) (meas : ι → Nat) (kn : ι → List (Nat × Value)) (I : ι → AH → Prop) (i0 : ι) (hok : okC a = true) (hl : l.length = m) (hs : Slots l (kn i0)) (h0 : I i0 H)
    (step : ∀ i l0 H, I i H → mkK (kn i) l0 m 0 fun l => wpC P T X S a l H (seqQ Q fun l' H' => ∃ i', meas i' < meas i ∧ l'.length = m ∧ Slots l' (kn i') ∧ I i' H')) : RawWp P T X (.loop a) l H Q := by
  constructor
  refine W.loop_inv (fun d l H => ∃ i, meas i = d ∧ l.length = m ∧ Slots l (kn i) ∧ I i H) ?_ (meas i0) l H ⟨i0, rfl, hl, hs, h0⟩
  rintro d l H ⟨i, rfl, hl, hs, hi⟩
  have h1 := mkK_eq hs (step i l H hi) (by omega)
  rw [List.drop_zero] at h1
  refine (wpC_ok hS hok h1).mono fun e l' H' hq => seqQ_ok (fun l2 H2 hk => ?_) hq
  obtain ⟨i', h2, h3, h4, h5⟩ := hk
  exact ⟨meas i', h2, i', rfl, h3, h4, h5⟩
/-- A part of code is gone through by what is said behind it alone. -/
theorem cut (hS : TysOk T S) {c : Code} {l : List Value} {H : AH} {Q : Ex → List Value → AH → Prop} {R : Ex → List Value → AH → Prop} (hok : okC c = true) (h : wpC P T X S c l H R) (k : ∀ e l' H', R e l' H' → Q e l' H') : W P T X c l H Q :=
  (wpC_ok hS hok h).mono k
end
end Go.Vc

namespace Go.Vc
open Go Go.Ev Go.Fv Go.Wp

section
variable {P : Program} {T : TT} {ρ : Operand → Value} {H : AH}

theorem src_of {bx ox n cx sz : Nat} {cs new : List Value} {ex : TypeId} (hg : H.get bx = some (.cells cs ex)) (hfit : ox + n * sz ≤ cs.length) (hnew : (cs.drop ox).take (n * sz) = new) :
    sourceV H sz n (.slice (some ⟨bx, ox, none⟩) n cx) = some new := by
  simp only [sourceV, Ev.rowAt, hg, if_pos hfit, hnew]

theorem ev_makeChan {t e : TypeId} {s : Operand} {k : IntKind} {n : Int} {i : TypeInfo} {d : ChanDir} (hu : T.und t = some (.chan d e)) (hi : T.inf e = some i) (hs : ρ s = .int k n) (h0 : 0 ≤ n) (h1 : n ≤ 4096) (h2 : i.bytes ≤ 4096) :
    evOp P T ρ (.makeChan t s) H = some (.chan (some H.next), H.alloc (.chan n.toNat [] 0 0)) := by
  simp only [evOp, hu, hs, hi]
  rw [if_pos ⟨h0, h1, h2⟩]
/-- A channel's elements are small. -/
def chT (T : TT) (t : TypeId) : Bool := match T.und t with | some (.chan _ e) => (match T.inf e with | some i => Nat.ble i.bytes 4096 | none => false) | _ => false
theorem ev_makeChan' {t : TypeId} {s : Operand} {k : IntKind} {n : Int} (ht : chT T t = true) (hs : ρ s = .int k n) (h0 : 0 ≤ n) (h1 : n ≤ 4096) :
    evOp P T ρ (.makeChan t s) H = some (.chan (some H.next), H.alloc (.chan n.toNat [] 0 0)) := by
  unfold chT at ht
  split at ht
  · rename_i d e hu
    split at ht
    · rename_i i hi
      exact ev_makeChan hu hi hs h0 h1 (Nat.le_of_ble_eq_true ht)
    · cases ht
  · cases ht
end

/-! ### with names for what is new -/
section
variable {P : Program} {T : TT} {H : AH} {l : List Value} {op : Op} {K : Value → AH → Prop} {o : AObj}
theorem nw {K : Nat → AH → Prop} (k : ∀ b H', Ext H H' → b = H.next → H'.next = b + 1 → H'.get b = some o → K b H') : NewWp o H K :=
  ⟨k _ _ (Ext.alloc H _) rfl rfl (AH.get_alloc_same H _)⟩
/-- A new slice of n zeros. -/
theorem mks {e bytes : Nat} {z : List Value} {n : Int} {K : Value → AH → Prop} (h0 : 0 ≤ n) (h1 : n ≤ 2 ^ 40) (h2 : bytes * n ≤ mostBytes)
    (k : ∀ b H', Ext H H' → b = H.next → H'.next = b + 1 → H'.get b = some (.cells (repeatL n.toNat z) e) → K (.slice (some ⟨b, 0, none⟩) n.toNat (2 * n.toNat + 1)) H') : MakeWp e bytes z n n H K :=
  ⟨h0, Int.le_refl _, h1, h2, k _ _ (Ext.alloc H _) rfl rfl (AH.get_alloc_same H _)⟩
theorem evC {op : Op} {K : Value → AH → Prop} (h : evOp P T (envL l) op H = some (.chan (some H.next), H.alloc o)) (k : ∀ b H', Ext H H' → b = H.next → H'.next = b + 1 → H'.get b = some o → K (.chan (some b)) H') : EvWp P T op l H K :=
  ev h (k _ _ (Ext.alloc H _) rfl rfl (AH.get_alloc_same H _))
/-- All but one block, of those that were there, are as they were. -/
def But (x : Nat) (H H' : AH) : Prop := H.next ≤ H'.next ∧ ∀ j, j < H.next → j ≠ x → H'.get j = H.get j
theorem But.get {x : Nat} {H H' : AH} (h : But x H H') {j : Nat} (hj : j < H.next) (hx : j ≠ x) {v : Option AObj} (hg : H.get j = v) : H'.get j = v := (h.2 j hj hx).trans hg
theorem But.ext {x : Nat} {H0 H H' : AH} (h : But x H H') (h0 : Ext H0 H) (hx : H0.next ≤ x) : Ext H0 H' :=
  ⟨Nat.le_trans h0.1 h.1, fun b hb => (h.2 b (Nat.lt_of_lt_of_le hb h0.1) (by omega)).trans (h0.2 b hb)⟩
/-- Appended to nothing. -/
theorem app0 {e : TypeId} {sz bytes n bx ox cx : Nat} {cs new : List Value} {ex : TypeId} (hg : H.get bx = some (.cells cs ex)) (hfit : ox + n * sz ≤ cs.length) (hnew : (cs.drop ox).take (n * sz) = new) (h1 : new.all one1 = true) (hn : n ≠ 0) (hb : n * 2 * (bytes + 1) + 1024 * (bytes + 1) ≤ mostBytes)
    (k : ∀ b H', Ext H H' → b = H.next → H'.next = b + 1 → H'.get b = some (.cells new e) → K (.slice (some ⟨b, 0, none⟩) n (2 * sz)) H') : AppWp T e sz bytes (.slice none 0 0) (.slice (some ⟨bx, ox, none⟩) n cx) H K := by
  refine ⟨fun ts ht => ⟨_, _, ?_, k _ _ (Ext.alloc H _) rfl rfl (AH.get_alloc_same H _)⟩⟩
  obtain ⟨st, i, xd, a1, a2, a3, rfl, rfl, a4, a5, a6, a7⟩ := appT_eq ht
  have hlen : new.length = n * i.size := by rw [← hnew, List.length_take, List.length_drop]; omega
  simp only [appendV, a1, a2, a3, lenV, a4, if_true]
  rw [if_pos ⟨a5, by rw [Nat.zero_add]; exact hb, a6, a7⟩, src_of hg hfit hnew]
  simp only
  rw [if_pos ⟨h1, hlen⟩]
  simp only [appendTo, if_neg hn]
/-- Nothing appended to nothing. -/
theorem app00 {e : TypeId} {sz bytes : Nat} (hb : 1024 * (bytes + 1) ≤ mostBytes) (k : K (.slice none 0 0) H) : AppWp T e sz bytes (.slice none 0 0) (.slice none 0 0) H K := by
  refine ⟨fun ts ht => ⟨_, _, ?_, k⟩⟩
  obtain ⟨st, i, xd, a1, a2, a3, rfl, rfl, a4, a5, a6, a7⟩ := appT_eq ht
  simp only [appendV, a1, a2, a3, lenV, a4, if_true]
  rw [if_pos ⟨a5, by simpa using hb, a6, a7⟩]
  simp [sourceV, appendTo]
/-- Appended where there may be room: the old block is given up. -/
theorem appO {e : TypeId} {sz bytes n bx ox cx b o len : Nat} {cs new c0 : List Value} {ex : TypeId} (hg : H.get bx = some (.cells cs ex)) (hfit : ox + n * sz ≤ cs.length) (hnew : (cs.drop ox).take (n * sz) = new) (h1 : new.all one1 = true) (hn : n ≠ 0) (hb : (len + n) * 2 * (bytes + 1) + 1024 * (bytes + 1) ≤ mostBytes)
    (h0 : H.get b = some (.cells c0 e)) (hf0 : o + len * sz ≤ c0.length)
    (k : ∀ b' H', But b H H' → b' = H.next → H'.next = b' + 1 → H'.get b' = some (.cells ((c0.drop o).take (len * sz) ++ new) e) → K (.slice (some ⟨b', 0, none⟩) (len + n) (2 * sz)) H') : AppWp T e sz bytes (.slice (some ⟨b, o, none⟩) len (2 * sz)) (.slice (some ⟨bx, ox, none⟩) n cx) H K := by
  refine ⟨fun ts ht => ⟨_, _, ?_, k _ _ ⟨Nat.le_succ _, fun j hj hx => ?_⟩ rfl rfl (AH.get_alloc_same (H.kill b) _)⟩⟩
  · obtain ⟨st, i, xd, a1, a2, a3, rfl, rfl, a4, a5, a6, a7⟩ := appT_eq ht
    have hlen : new.length = n * i.size := by rw [← hnew, List.length_take, List.length_drop]; omega
    simp only [appendV, a1, a2, a3, lenV, a4]
    rw [if_pos ⟨a5, hb, a6, a7⟩, src_of hg hfit hnew]
    simp only
    rw [if_pos ⟨h1, hlen⟩]
    have h2 : ¬ (2 * i.size % 2 = 1) := by omega
    simp only [appendTo, if_neg h2, if_true, if_neg hn, h0]
    rw [if_pos ⟨trivial, hf0⟩]
  · rw [AH.get_alloc_other _ _ (show j ≠ (H.kill b).next from Nat.ne_of_lt hj), AH.get_kill_other _ (Ne.symm hx)]
theorem st' {n b o : Nat} {c vs : List Value} {e : TypeId} {K : AH → Prop} (hg : H.get b = some (.cells c e)) (h1 : vs.length = n) (h2 : o + n ≤ c.length) (h3 : vs.all one1 = true)
    (k : ∀ H', But b H H' → H'.next = H.next → H'.get b = some (.cells (setMany c o vs) e) → K H') : StoreWp n H b o vs K :=
  st hg h1 h2 h3 (k _ ⟨Nat.le_refl _, fun _ _ hj => AH.get_set_other _ _ (Ne.symm hj)⟩ rfl (AH.get_set_same ..))
end
end Go.Vc

namespace Go.Vc
open Go Go.Ev Go.Fv Go.Wp

/-- The operation q is loud, and behind all that look into memory. -/
def sealOK (ops : Array Oper) (q : Nat) : Bool :=
  (match ops[q]? with | some o => loudOp o.op | none => false) &&
  (List.range ops.size).all fun i => match ops[i]? with
    | some o => !stillOp o.op || pureOp o.op || (Nat.blt i q && ((Region.before ops).getD q 0).testBit i)
    | none => true

section
variable (P : Program) (T : TT) (X : Prims) (S : Tys)
structure NextWp (H H' : AH) (A : Prop) : Prop where
  out : H.next ≤ H'.next ∧ A
/-- Operations behind which nothing looks into memory. -/
noncomputable def wpF (o : Op) (l : List Value) (H : AH) (K : Value → AH → Prop) : Prop :=
  Bool.rec (motive := fun _ => Prop) (Bool.rec (motive := fun _ => Prop) (argsK l o.operands.toList fun vs => BelWp H.next vs (wpOp P T X S o l H fun v H' => NextWp H H' (K v H'))) False (stillOp o)) (wpOp P T X S o l H fun v _ => K v H) (pureOp o)
noncomputable def wpGOps (N : Nat) (L : List (Nat × AObj)) (ops : Array Oper) (r : List Oper) : Nat → List Value → AH → (List Value → AH → Prop) → Prop :=
  List.rec (motive := fun _ => Nat → List Value → AH → (List Value → AH → Prop) → Prop) (fun _ l H Q => Q l H)
    (fun o _ ih q l H Q => Nat.rec (motive := fun _ => Prop)
      (guardK ops l o.guard (wpF P T X S o.op l H fun v H' => putK l o.dst v fun l' => ih 0 l' H' Q) (putK l o.dst undef fun l' => ih 0 l' H Q))
      (fun q _ => guardK ops l o.guard (wpD P T X S N L o.op l H fun v H' => putK l o.dst v fun l' => ih q l' H' Q) (putK l o.dst undef fun l' => ih q l' H Q)) q) r
end

section
variable {P : Program} {T : TT} {X : Prims} {S : Tys}
theorem nx {H H' : AH} {A : Prop} (h : H.next ≤ H'.next) (k : A) : NextWp H H' A := ⟨h, k⟩

/-- A single operation's run behind what looks into memory. -/
def RunF (P : Program) (T : TT) (X : Prims) (o : Op) (l : List Value) (H : AH) (K : Value → AH → Prop) : Prop :=
  ∃ n v H', evOperW P T X (evCode P T X n) (envL l) o H = some (v, H') ∧ K v H' ∧ H.next ≤ H'.next ∧ (stillOp o = false → (o.operands.toList.all fun x => belowV H.next (envL l x)) = true) ∧ (stillOp o = true → pureOp o = true)
theorem wpF_ok (hS : TysOk T S) {o : Op} {l : List Value} {H : AH} {K : Value → AH → Prop} (h : wpF P T X S o l H K) : RunF P T X o l H K := by
  rcases iteK h with ⟨hp, h⟩ | ⟨hp, h⟩
  · obtain ⟨n, v, H', h1, h2⟩ := wpOp_ok hS h
    have hst' : stillOp o = true := by
      unfold pureOp at hp
      split at hp <;> first | exact hp | cases hp
    have h1' := h1
    rw [still_oper hst'] at h1'
    have := still_same hst' h1'
    subst this
    exact ⟨n, v, _, h1, h2, Nat.le_refl _, fun h => (by rw [hst'] at h; cases h), fun _ => hp⟩
  · rcases iteK h with ⟨_, h⟩ | ⟨hs, h⟩
    · exact h.elim
    · have h := argsK_eq (K := fun vs => BelWp H.next vs (wpOp P T X S o l H fun v H' => NextWp H H' (K v H'))) h
      obtain ⟨hb, h⟩ := h.out
      obtain ⟨n, v, H', h1, h2⟩ := wpOp_ok hS h
      refine ⟨n, v, H', h1, h2.out.2, h2.out.1, fun _ => ?_, fun h => (by rw [hs] at h; cases h)⟩
      rw [List.all_map] at hb
      exact hb

/-- What is said of each step. -/
def StepG (P : Program) (T : TT) (N : Nat) (L : List (Nat × AObj)) (ops : Array Oper) (early : Prop) (o : Oper) (s : St) (v : Value) : Prop :=
  (stillOp o.op = false → wantedL ops s.tmps o = true → (o.op.operands.toList.all fun x => belowV s.heap.next (envL s.tmps x)) = true) ∧
  (stillOp o.op = true → pureOp o.op = false → wantedL ops s.tmps o = true → early ∧ ∀ H2, Stab N L H2 → (∃ H3, evOp P T (envL s.tmps) o.op H2 = some (v, H3)) ∧ eqV v v = true ∧ (o.op.operands.toList.all fun x => belowV H2.next (envL s.tmps x)) = true)

theorem wpGOps_ok (hS : TysOk T S) {N : Nat} {L : List (Nat × AObj)} {ops : Array Oper} : ∀ {r : List Oper} {q : Nat} {l : List Value} {H : AH} {Q : List Value → AH → Prop} {st : Prop}, (st → Stab N L H) → (0 < q → st) → (r.all fun o => o.op.operands.toList.all okOperand) = true → wpGOps P T X S N L ops r q l H Q →
    ∃ n tr l' H', traceW P T X (evCode P T X n) ops r ⟨l, H⟩ = some (tr, ⟨l', H'⟩) ∧ tr.length = r.length ∧ heapAhead tr ⟨l', H'⟩ 0 = H ∧
      (∀ i, i ≤ q → i ≤ r.length → st → Stab N L (heapAhead tr ⟨l', H'⟩ i)) ∧
      (∀ (i : Nat) (s : St) (v : Value), tr[i]? = some (s, v) → s.heap.next ≤ (heapAhead tr ⟨l', H'⟩ (i + 1)).next ∧ ∃ o, r[i]? = some o ∧ StepG P T N L ops (i < q) o s v) ∧ Q l' H'
  | [], q, l, H, Q, st, hst, _, _, h => ⟨0, [], l, H, rfl, rfl, rfl, fun i _ hi h => (by have : i = 0 := by simpa using hi
                                                                                         subst this; exact hst h), fun i s v hi => by simp at hi, h⟩
  | o :: r, q, l, H, Q, st, hst, hq, hok, h => by
    simp only [List.all_cons, Bool.and_eq_true] at hok
    have step : ∀ {v H1 n}, evOneW P T X (evCode P T X n) ops o ⟨l, H⟩ = some (v, H1) → H.next ≤ H1.next → (st → 0 < q → Stab N L H1) → StepG P T N L ops (0 < q) o ⟨l, H⟩ v → wpGOps P T X S N L ops r (q - 1) (putL l o.dst v) H1 Q →
        ∃ n tr l' H', traceW P T X (evCode P T X n) ops (o :: r) ⟨l, H⟩ = some (tr, ⟨l', H'⟩) ∧ tr.length = (o :: r).length ∧ heapAhead tr ⟨l', H'⟩ 0 = H ∧
          (∀ i, i ≤ q → i ≤ (o :: r).length → st → Stab N L (heapAhead tr ⟨l', H'⟩ i)) ∧
          (∀ (i : Nat) (s : St) (v : Value), tr[i]? = some (s, v) → s.heap.next ≤ (heapAhead tr ⟨l', H'⟩ (i + 1)).next ∧ ∃ o', (o :: r)[i]? = some o' ∧ StepG P T N L ops (i < q) o' s v) ∧ Q l' H' := by
      intro v H1 n g1 h6 h5 h7 h2
      obtain ⟨m, tr, l', H', k1, k2, k4, k3, k5, k6⟩ := wpGOps_ok hS (st := st ∧ 0 < q) (fun hh => h5 hh.1 hh.2) (fun hh => ⟨hq (by omega), by omega⟩) hok.2 h2
      have g2 := evOneW_le (evCode_le (P := P) (T := T) (X := X) (Nat.le_max_left n m)) g1
      have g3 := traceW_le (evCode_le (P := P) (T := T) (X := X) (Nat.le_max_right n m)) k1
      refine ⟨max n m, (⟨l, H⟩, v) :: tr, l', H', ?_, by simp [k2], rfl, fun i hi hil hh => ?_, fun i s v' hi => ?_, k6⟩
      · show (match evOneW P T X (evCode P T X (max n m)) ops o ⟨l, H⟩ with
          | some (v, H') => (match traceW P T X (evCode P T X (max n m)) ops r ⟨putL l o.dst v, H'⟩ with | some (tr, s') => some (((⟨l, H⟩ : St), v) :: tr, s') | none => none)
          | none => none) = _
        rw [g2]; dsimp only; rw [g3]
      · cases i with
        | zero => exact hst hh
        | succ i =>
          rw [ahead_cons]
          exact k3 i (by omega) (by simpa using hil) ⟨hh, by omega⟩
      · rw [ahead_cons]
        cases i with
        | zero =>
          simp only [List.getElem?_cons_zero, Option.some.injEq, Prod.mk.injEq] at hi
          obtain ⟨rfl, rfl⟩ := hi
          rw [k4]
          exact ⟨h6, o, rfl, h7⟩
        | succ i =>
          obtain ⟨g4, o', g5, g6, g7⟩ := k5 i s v' (by simpa using hi)
          exact ⟨g4, o', by simpa using g5, g6, fun a b c => ⟨by have := (g7 a b c).1; omega, (g7 a b c).2⟩⟩
    cases q with
    | zero =>
      rcases guardK_ok (o := o) (show guardK ops l o.guard _ _ from h) with ⟨h1, h2⟩ | ⟨h1, h2⟩
      · obtain ⟨n, v, H1, h3, h4, h6, h7, h8⟩ := wpF_ok hS h2
        exact step (n := n) (by simp only [evOneW, h1, hok.1, if_true]; exact h3) h6 (fun _ hh => absurd hh (by omega)) ⟨fun hs _ => h7 hs, fun a b _ => (by rw [h8 a] at b; cases b)⟩ (putK_eq h4)
      · exact step (n := 0) (v := undef) (H1 := H) (by simp only [evOneW, h1]; rfl) (Nat.le_refl _) (fun _ hh => absurd hh (by omega)) ⟨fun _ hw => (by rw [h1] at hw; cases hw), fun _ _ hw => (by rw [h1] at hw; cases hw)⟩ (putK_eq h2)
    | succ q =>
      rcases guardK_ok (o := o) (show guardK ops l o.guard _ _ from h) with ⟨h1, h2⟩ | ⟨h1, h2⟩
      · obtain ⟨n, v, H1, h3, h4, h5, h6, h7, h8⟩ := wpD_ok hS (hst (hq (by omega))) h2
        exact step (n := n) (by simp only [evOneW, h1, hok.1, if_true]; exact h3) h6 (fun _ _ => h5) ⟨fun hs _ => h7 hs, fun a b _ => ⟨by omega, h8 a b⟩⟩ (putK_eq h4)
      · exact step (n := 0) (v := undef) (H1 := H) (by simp only [evOneW, h1]; rfl) (Nat.le_refl _) (fun hh _ => hst hh) ⟨fun _ hw => (by rw [h1] at hw; cases hw), fun _ _ hw => (by rw [h1] at hw; cases hw)⟩ (putK_eq h2)

/-- A REGION THAT DRAWS ITS ORDER, where what it looks at stays as it is until the operation q, which is behind all that look. -/
theorem drwG (hS : TysOk T S) {N : Nat} {L : List (Nat × AObj)} {pos : Nat} {ops : Array Oper} {l : List Value} {H : AH} {Q : Ex → List Value → AH → Prop} (q : Nat) (hq : sealOK ops q = true) (hst : Stab N L H) (hok : okOps ops = true)
    (h : wpGOps P T X S N L ops ops.toList q l H (Q .normal)) : RawWp P T X (.region pos ops true) l H Q := by
  constructor
  obtain ⟨n, tr, l', H', h1, h2, h4, h3, h5, h6⟩ := wpGOps_ok hS (st := True) (fun _ => hst) (fun _ => trivial) hok h
  unfold sealOK at hq
  rw [Bool.and_eq_true, List.all_eq_true] at hq
  obtain ⟨hloud, hseal⟩ := hq
  have hqs : q < ops.size := by
    cases ho : ops[q]? with
    | none => rw [ho] at hloud; cases hloud
    | some o => exact (Array.getElem?_eq_some_iff.1 ho).1
  have hmem : q ∈ louds ops := by
    unfold louds
    rw [List.mem_filter]
    exact ⟨List.mem_range.2 hqs, hloud⟩
  have hsteady : steadyW P T ops tr ⟨l', H'⟩ = true := by
    unfold steadyW
    rw [List.all_eq_true]
    intro i hi
    have hi : i < ops.size := by simpa using hi
    have hi' : i < tr.length := by rw [h2]; simpa using hi
    obtain ⟨_, o', k1, k3, k4⟩ := h5 i tr[i].1 tr[i].2 (by simp [hi'])
    rw [Array.getElem?_toList] at k1
    have e : tr[i]? = some (tr[i].1, tr[i].2) := by simp [hi']
    rw [k1, e]
    dsimp only
    split
    · rename_i hc
      simp only [Bool.and_eq_true, Bool.not_eq_true'] at hc
      rw [List.all_eq_true]
      intro p hp
      split
      · rename_i hord
        have hpq : p ≤ q := by
          rcases Nat.lt_or_ge q p with hlt | hge
          · rw [List.all_eq_true] at hord
            have h7 := hord q hmem
            rw [if_pos hlt] at h7
            have h8 := hseal i (List.mem_range.2 hi)
            rw [k1] at h8
            simp only [hc.1.1, hc.1.2, Bool.not_true, Bool.false_or, Bool.and_eq_true] at h8
            rw [h8.2] at h7
            cases h7
          · exact hge
        obtain ⟨⟨H3, g1⟩, g2, g3⟩ := (k4 hc.1.1 hc.1.2 hc.2).2 _ (h3 p hpq (by simp; omega) trivial)
        rw [g1]
        dsimp only
        rw [g2, g3]; rfl
      · rfl
    · rfl
  have htidy : tidyW ops tr ⟨l', H'⟩ = true := by
    unfold tidyW
    rw [List.all_eq_true]
    intro i hi
    have hi : i < ops.size := by simpa using hi
    have hi' : i < tr.length := by rw [h2]; simpa using hi
    obtain ⟨k0, o', k1, k3, k4⟩ := h5 i tr[i].1 tr[i].2 (by simp [hi'])
    rw [Array.getElem?_toList] at k1
    have e : tr[i]? = some (tr[i].1, tr[i].2) := by simp [hi']
    rw [k1, e]
    dsimp only
    rw [Bool.and_eq_true, Nat.ble_eq]
    refine ⟨k0, ?_⟩
    cases hs : stillOp o'.op with
    | true => rfl
    | false =>
      cases hw : wantedL ops tr[i].1.tmps o' with
      | false => rfl
      | true =>
        have := k3 hs hw
        simp only [Bool.false_or, Bool.not_true]
        exact this
  refine ⟨n + 1, .normal, ⟨l', H'⟩, ?_, h6⟩
  show (evRegionW P T X (evCode P T X n) ops true ⟨l, H⟩).map _ = _
  have : evRegionW P T X (evCode P T X n) ops true ⟨l, H⟩ = some ⟨l', H'⟩ := by
    unfold evRegionW
    rw [if_pos rfl, h1]
    simp only [hsteady, htidy, Bool.and_self, if_true]
  rw [this]; rfl
end
end Go.Vc
