/- A swifter evaluator for the kernel: what code does is laid down once, and run with what comes behind it. What it answers, the evaluator answers. -/
import Derived.Test.YtaoaddokgofifaaGreatEvQ
namespace Go.Fv
open Go.Ev

abbrev Ans := Option (Value × AH)

/-! ### slots in a tree -/
structure N8 (α : Type) where
  a : α
  b : α
  c : α
  d : α
  e : α
  f : α
  g : α
  h : α

def NT : Nat → Type
  | 0 => Value
  | n + 1 => N8 (NT n)

def sel {α : Type} (t : N8 α) : Nat → α
  | 0 => t.a
  | 1 => t.b
  | 2 => t.c
  | 3 => t.d
  | 4 => t.e
  | 5 => t.f
  | 6 => t.g
  | _ => t.h
def upd {α : Type} (t : N8 α) (x : α) : Nat → N8 α
  | 0 => { t with a := x }
  | 1 => { t with b := x }
  | 2 => { t with c := x }
  | 3 => { t with d := x }
  | 4 => { t with e := x }
  | 5 => { t with f := x }
  | 6 => { t with g := x }
  | _ => { t with h := x }

def getN : (D : Nat) → Nat → NT D → Value
  | 0, _, t => t
  | D + 1, i, t => getN D (i / 8) (sel t (i % 8))
def setN : (D : Nat) → Nat → Value → NT D → NT D
  | 0, _, v, _ => v
  | D + 1, i, v, t => upd t (setN D (i / 8) v (sel t (i % 8))) (i % 8)
def ofN : (D : Nat) → (Nat → Value) → NT D
  | 0, f => f 0
  | D + 1, f => ⟨ofN D (fun j => f (8 * j)), ofN D (fun j => f (8 * j + 1)), ofN D (fun j => f (8 * j + 2)), ofN D (fun j => f (8 * j + 3)), ofN D (fun j => f (8 * j + 4)), ofN D (fun j => f (8 * j + 5)),
      ofN D (fun j => f (8 * j + 6)), ofN D (fun j => f (8 * j + 7))⟩

theorem sel_upd {α : Type} (t : N8 α) (x : α) {i j : Nat} (hi : i < 8) (hj : j < 8) : sel (upd t x i) j = if i = j then x else sel t j := by
  match i, hi with
  | 0, _ => match j, hj with | 0, _ => rfl | 1, _ => rfl | 2, _ => rfl | 3, _ => rfl | 4, _ => rfl | 5, _ => rfl | 6, _ => rfl | 7, _ => rfl
  | 1, _ => match j, hj with | 0, _ => rfl | 1, _ => rfl | 2, _ => rfl | 3, _ => rfl | 4, _ => rfl | 5, _ => rfl | 6, _ => rfl | 7, _ => rfl
  | 2, _ => match j, hj with | 0, _ => rfl | 1, _ => rfl | 2, _ => rfl | 3, _ => rfl | 4, _ => rfl | 5, _ => rfl | 6, _ => rfl | 7, _ => rfl
  | 3, _ => match j, hj with | 0, _ => rfl | 1, _ => rfl | 2, _ => rfl | 3, _ => rfl | 4, _ => rfl | 5, _ => rfl | 6, _ => rfl | 7, _ => rfl
  | 4, _ => match j, hj with | 0, _ => rfl | 1, _ => rfl | 2, _ => rfl | 3, _ => rfl | 4, _ => rfl | 5, _ => rfl | 6, _ => rfl | 7, _ => rfl
  | 5, _ => match j, hj with | 0, _ => rfl | 1, _ => rfl | 2, _ => rfl | 3, _ => rfl | 4, _ => rfl | 5, _ => rfl | 6, _ => rfl | 7, _ => rfl
  | 6, _ => match j, hj with | 0, _ => rfl | 1, _ => rfl | 2, _ => rfl | 3, _ => rfl | 4, _ => rfl | 5, _ => rfl | 6, _ => rfl | 7, _ => rfl
  | 7, _ => match j, hj with | 0, _ => rfl | 1, _ => rfl | 2, _ => rfl | 3, _ => rfl | 4, _ => rfl | 5, _ => rfl | 6, _ => rfl | 7, _ => rfl

theorem getN_setN (v : Value) : ∀ (D : Nat) (i j : Nat) (t : NT D), i < 8 ^ D → j < 8 ^ D → getN D j (setN D i v t) = if i = j then v else getN D j t
  | 0, i, j, t, hi, hj => by
    simp at hi hj; subst hi hj; simp [getN, setN]
  | D + 1, i, j, t, hi, hj => by
    have e : 8 ^ (D + 1) = 8 ^ D * 8 := Nat.pow_succ ..
    rw [e] at hi hj
    have h1 := getN_setN v D (i / 8) (j / 8) (sel (α := NT D) t (i % 8)) (by omega) (by omega)
    have h2 := sel_upd (α := NT D) t (setN D (i / 8) v (sel (α := NT D) t (i % 8))) (Nat.mod_lt i (show 8 > 0 by omega)) (Nat.mod_lt j (show 8 > 0 by omega))
    refine (congrArg (getN D (j / 8)) h2).trans ?_
    by_cases hm : i % 8 = j % 8
    · rw [if_pos hm]
      refine h1.trans ?_
      by_cases hd : i / 8 = j / 8
      · rw [if_pos hd, if_pos (by omega)]
      · rw [if_neg hd, if_neg (by intro h; subst h; exact hd rfl), hm]; rfl
    · rw [if_neg hm, if_neg (by intro h; subst h; exact hm rfl)]; rfl

theorem sel_ofN (D : Nat) (f : Nat → Value) {i : Nat} (hi : i < 8) : sel (ofN (D + 1) f : N8 (NT D)) i = ofN D (fun j => f (8 * j + i)) := by
  match i, hi with
  | 0, _ => rfl
  | 1, _ => rfl
  | 2, _ => rfl
  | 3, _ => rfl
  | 4, _ => rfl
  | 5, _ => rfl
  | 6, _ => rfl
  | 7, _ => rfl

theorem getN_ofN : ∀ (D : Nat) (f : Nat → Value) (i : Nat), i < 8 ^ D → getN D i (ofN D f) = f i
  | 0, f, i, hi => by simp at hi; subst hi; rfl
  | D + 1, f, i, hi => by
    have e : 8 ^ (D + 1) = 8 ^ D * 8 := Nat.pow_succ ..
    rw [e] at hi
    refine (congrArg (getN D (i / 8)) (sel_ofN D f (Nat.mod_lt i (show 8 > 0 by omega)))).trans ?_
    rw [getN_ofN D _ (i / 8) (by omega)]
    congr 1
    omega

/-- The slots as a list. -/
def toL {D : Nat} (m : Nat) (t : NT D) : List Value := (List.range m).map fun i => getN D i t

theorem toL_len {D m : Nat} (t : NT D) : (toL m t).length = m := by simp [toL]
theorem toL_get {D m : Nat} (t : NT D) {i : Nat} (hi : i < m) : (toL m t)[i]? = some (getN D i t) := by simp [toL, hi]
theorem toL_getD {D m : Nat} (t : NT D) {i : Nat} (hi : i < m) : (toL m t).getD i undef = getN D i t := by
  rw [List.getD_eq_getElem?_getD, toL_get t hi]; rfl
theorem toL_set {D m : Nat} (hm : m ≤ 8 ^ D) (t : NT D) {i : Nat} (hi : i < m) (v : Value) : toL m (setN D i v t) = (toL m t).set i v := by
  apply List.ext_getElem?
  intro j
  by_cases hj : j < m
  · rw [toL_get _ hj, getN_setN v D i j t (by omega) (by omega), List.getElem?_set]
    by_cases e : i = j
    · rw [if_pos e, if_pos e, if_pos (by rw [toL_len]; exact hi)]
    · rw [if_neg e, if_neg e, toL_get _ hj]
  · rw [List.getElem?_eq_none (by rw [toL_len]; omega), List.getElem?_eq_none (by rw [List.length_set, toL_len]; omega)]
theorem toL_ofN {D m : Nat} (hm : m ≤ 8 ^ D) {l : List Value} (hl : l.length = m) {f : Nat → Value} (hf : ∀ i, i < m → f i = l.getD i undef) : toL m (ofN D f) = l := by
  apply List.ext_getElem?
  intro j
  by_cases hj : j < m
  · rw [toL_get _ hj, getN_ofN D f j (by omega), hf j hj, List.getD_eq_getElem?_getD, List.getElem?_eq_getElem (by omega)]; rfl
  · rw [List.getElem?_eq_none (by rw [toL_len]; omega), List.getElem?_eq_none (by omega)]

/-! ### laid down once -/
structure Gt (D : Nat) where
  run : NT D → Value
structure Sr (D : Nat) where
  run : Value → NT D → (NT D → Ans) → Ans

def cGet : (D : Nat) → Nat → Gt D
  | 0, _ => ⟨fun t => t⟩
  | D + 1, i =>
    match cGet D (i / 8) with
    | ⟨f⟩ =>
      match i % 8 with
      | 0 => ⟨fun t => f (N8.a t)⟩
      | 1 => ⟨fun t => f (N8.b t)⟩
      | 2 => ⟨fun t => f (N8.c t)⟩
      | 3 => ⟨fun t => f (N8.d t)⟩
      | 4 => ⟨fun t => f (N8.e t)⟩
      | 5 => ⟨fun t => f (N8.f t)⟩
      | 6 => ⟨fun t => f (N8.g t)⟩
      | _ => ⟨fun t => f (N8.h t)⟩

theorem cGet_run : ∀ (D i : Nat) (t : NT D), (cGet D i).run t = getN D i t
  | 0, _, _ => rfl
  | D + 1, i, t => by
    have ih := cGet_run D (i / 8)
    have h8 := Nat.mod_lt i (show 8 > 0 by omega)
    simp only [cGet, getN]
    rw [← ih]
    cases hc : cGet D (i / 8) with
    | mk f =>
      generalize i % 8 = j at h8
      match j, h8 with
      | 0, _ => rfl
      | 1, _ => rfl
      | 2, _ => rfl
      | 3, _ => rfl
      | 4, _ => rfl
      | 5, _ => rfl
      | 6, _ => rfl
      | 7, _ => rfl

noncomputable def cSet : (D : Nat) → Nat → Sr D
  | 0, _ => ⟨fun v _ k => k v⟩
  | D + 1, i =>
    match cSet D (i / 8) with
    | ⟨w⟩ =>
      match i % 8 with
      | 0 => ⟨fun v t k => N8.rec (motive := fun _ => Ans) (fun a b c d e f g h => w v a (fun x => k (N8.mk x b c d e f g h))) t⟩
      | 1 => ⟨fun v t k => N8.rec (motive := fun _ => Ans) (fun a b c d e f g h => w v b (fun x => k (N8.mk a x c d e f g h))) t⟩
      | 2 => ⟨fun v t k => N8.rec (motive := fun _ => Ans) (fun a b c d e f g h => w v c (fun x => k (N8.mk a b x d e f g h))) t⟩
      | 3 => ⟨fun v t k => N8.rec (motive := fun _ => Ans) (fun a b c d e f g h => w v d (fun x => k (N8.mk a b c x e f g h))) t⟩
      | 4 => ⟨fun v t k => N8.rec (motive := fun _ => Ans) (fun a b c d e f g h => w v e (fun x => k (N8.mk a b c d x f g h))) t⟩
      | 5 => ⟨fun v t k => N8.rec (motive := fun _ => Ans) (fun a b c d e f g h => w v f (fun x => k (N8.mk a b c d e x g h))) t⟩
      | 6 => ⟨fun v t k => N8.rec (motive := fun _ => Ans) (fun a b c d e f g h => w v g (fun x => k (N8.mk a b c d e f x h))) t⟩
      | _ => ⟨fun v t k => N8.rec (motive := fun _ => Ans) (fun a b c d e f g h => w v h (fun x => k (N8.mk a b c d e f g x))) t⟩

theorem cSet_run : ∀ (D i : Nat) (v : Value) (t : NT D) (k : NT D → Ans), (cSet D i).run v t k = k (setN D i v t)
  | 0, _, _, _, _ => rfl
  | D + 1, i, v, t, k => by
    have ih := cSet_run D (i / 8)
    have h8 := Nat.mod_lt i (show 8 > 0 by omega)
    simp only [cSet, setN]
    cases hc : cSet D (i / 8) with
    | mk w =>
      rw [hc] at ih
      generalize i % 8 = j at h8
      obtain ⟨a, b, c, d, e, f, g, h⟩ := t
      match j, h8 with
      | 0, _ => exact ih v a _
      | 1, _ => exact ih v b _
      | 2, _ => exact ih v c _
      | 3, _ => exact ih v d _
      | 4, _ => exact ih v e _
      | 5, _ => exact ih v f _
      | 6, _ => exact ih v g _
      | 7, _ => exact ih v h _

/-! ### lists and memory, with what comes behind -/
noncomputable def getK (l : List Value) : Nat → Value :=
  List.rec (motive := fun _ => Nat → Value) (fun _ => undef) (fun x _ ih i => Nat.rec (motive := fun _ => Value) x (fun j _ => ih j) i) l
theorem getK_eq : ∀ (l : List Value) (i : Nat), getK l i = l.getD i undef
  | [], _ => rfl
  | _ :: _, 0 => rfl
  | _ :: l, i + 1 => getK_eq l i

/-- The cell i of a row. -/
noncomputable def nthO (i : Nat) : List Value → Option Value :=
  Nat.rec (motive := fun _ => List Value → Option Value) (fun l => List.rec (motive := fun _ => Option Value) none (fun x _ _ => some x) l)
    (fun _ ih l => List.rec (motive := fun _ => Option Value) none (fun _ r _ => ih r) l) i
theorem nthO_eq : ∀ (i : Nat) (l : List Value), nthO i l = l[i]?
  | 0, [] => rfl
  | 0, _ :: _ => rfl
  | _ + 1, [] => rfl
  | i + 1, _ :: l => (nthO_eq i l).trans (by simp)
noncomputable def cellK (l : List Value) (i : Nat) (k : Value → Ans) : Ans := Option.rec (motive := fun _ => Ans) none k (nthO i l)
theorem cellK_eq {r : Value × AH} {l : List Value} {i : Nat} {k : Value → Ans} (h : cellK l i k = some r) : ∃ v, l[i]? = some v ∧ k v = some r := by
  unfold cellK at h
  rw [nthO_eq] at h
  cases he : l[i]? with
  | none => rw [he] at h; cases h
  | some v => rw [he] at h; exact ⟨v, rfl, h⟩

noncomputable def setC (v : Value) (d : Nat) : List Value → (List Value → Ans) → Ans :=
  Nat.rec (motive := fun _ => List Value → (List Value → Ans) → Ans)
    (fun l k => List.rec (motive := fun _ => Ans) none (fun _ r _ => k (v :: r)) l)
    (fun _ ih l k => List.rec (motive := fun _ => Ans) none (fun x r _ => ih r (fun r' => k (x :: r'))) l) d
theorem setC_eq {v : Value} {r : Value × AH} : ∀ {d : Nat} {l : List Value} {k : List Value → Ans}, setC v d l k = some r → d < l.length ∧ k (l.set d v) = some r
  | 0, [], _, h => by cases h
  | 0, _ :: _, _, h => ⟨by simp, h⟩
  | _ + 1, [], _, h => by cases h
  | d + 1, _ :: l, k, h => by
    obtain ⟨h1, h2⟩ := setC_eq (d := d) (l := l) h
    exact ⟨by simpa using h1, h2⟩

/-- Cells are laid over a row, from one on. -/
noncomputable def overC (vs : List Value) : List Value → (List Value → Ans) → Ans :=
  List.rec (motive := fun _ => List Value → (List Value → Ans) → Ans) (fun c k => k c) (fun v _ ih c k => List.rec (motive := fun _ => Ans) none (fun _ r _ => ih r (fun r' => k (v :: r'))) c) vs
noncomputable def rowC (vs : List Value) (o : Nat) : List Value → (List Value → Ans) → Ans :=
  Nat.rec (motive := fun _ => List Value → (List Value → Ans) → Ans) (fun c k => overC vs c k) (fun _ ih c k => List.rec (motive := fun _ => Ans) none (fun x r _ => ih r (fun r' => k (x :: r'))) c) o

theorem overC_eq {r : Value × AH} : ∀ {vs c : List Value} {k : List Value → Ans}, overC vs c k = some r → vs.length ≤ c.length ∧ k (vs ++ c.drop vs.length) = some r
  | [], c, k, h => ⟨by simp, h⟩
  | v :: vs, [], k, h => by cases h
  | v :: vs, x :: c, k, h => by
    obtain ⟨h1, h2⟩ := overC_eq (vs := vs) (c := c) (k := fun r' => k (v :: r')) h
    exact ⟨by simpa using h1, by simpa using h2⟩
theorem rowC_eq {vs : List Value} {r : Value × AH} : ∀ {o : Nat} {c : List Value} {k : List Value → Ans}, rowC vs o c k = some r → o + vs.length ≤ c.length ∧ k (c.take o ++ (vs ++ c.drop (o + vs.length))) = some r
  | 0, c, k, h => by
    obtain ⟨h1, h2⟩ := overC_eq (vs := vs) (c := c) (k := k) h
    exact ⟨by omega, by simpa using h2⟩
  | o + 1, [], k, h => by cases h
  | o + 1, x :: c, k, h => by
    obtain ⟨h1, h2⟩ := rowC_eq (vs := vs) (o := o) (c := c) (k := fun r' => k (x :: r')) h
    refine ⟨by simp only [List.length_cons]; omega, ?_⟩
    have e : o + 1 + vs.length = (o + vs.length) + 1 := by omega
    rw [e]
    simpa using h2
theorem setMany_row : ∀ (vs c : List Value) (o : Nat), o + vs.length ≤ c.length → setMany c o vs = c.take o ++ (vs ++ c.drop (o + vs.length)) := by
  intro vs c o h
  apply List.ext_getElem?
  intro j
  rw [getElem?_setMany vs c o j h, List.getElem?_append, List.getElem?_append]
  have hl : (c.take o).length = o := by simp; omega
  rw [hl]
  by_cases h1 : j < o
  · rw [if_neg (by omega), if_pos h1, List.getElem?_take, if_pos h1]
  · rw [if_neg h1]
    by_cases h2 : j - o < vs.length
    · rw [if_pos (by omega), if_pos h2]
    · rw [if_neg (by omega), if_neg h2, List.getElem?_drop]
      congr 1
      omega

noncomputable def getT (t : Tr AObj) : Nat → Option AObj :=
  Tr.rec (motive := fun _ => Nat → Option AObj) (fun _ => none)
    (fun _ v _ ihl ihr k => Nat.rec (motive := fun _ => Option AObj) v (fun _ _ => Nat.rec (motive := fun _ => Option AObj) (ihl (Nat.div k 2)) (fun _ _ => ihr (Nat.div k 2)) (Nat.mod k 2)) k) t

theorem bits_fuel : ∀ (f g n : Nat), n ≤ f → n ≤ g → Tr.bitsOf f n = Tr.bitsOf g n
  | 0, 0, _, _, _ => rfl
  | 0, g + 1, n, h, _ => by
    have : n = 0 := by omega
    subst this; simp [Tr.bitsOf]
  | f + 1, 0, n, _, h => by
    have : n = 0 := by omega
    subst this; simp [Tr.bitsOf]
  | f + 1, g + 1, n, h1, h2 => by
    simp only [Tr.bitsOf]
    split
    · rfl
    · rw [bits_fuel f g (n / 2) (by omega) (by omega)]

theorem bits_step {n : Nat} (h : n ≠ 0) : Tr.bitsOf n n = (n % 2 == 1) :: Tr.bitsOf (n / 2) (n / 2) := by
  obtain ⟨m, rfl⟩ : ∃ m, n = m + 1 := ⟨n - 1, by omega⟩
  rw [Tr.bitsOf, if_neg h, bits_fuel m ((m + 1) / 2) ((m + 1) / 2) (by omega) (by omega)]
theorem bits_zero : Tr.bitsOf 0 0 = [] := rfl

theorem getT_eq : ∀ (t : Tr AObj) (k : Nat), getT t k = t.get k
  | .leaf, k => by
    show none = _
    exact (Tr.get_leaf k).symm
  | .node l v r, 0 => rfl
  | .node l v r, k + 1 => by
    show Nat.rec (motive := fun _ => Option AObj) (getT l (Nat.div (k + 1) 2)) (fun _ _ => getT r (Nat.div (k + 1) 2)) (Nat.mod (k + 1) 2) = _
    rw [getT_eq l, getT_eq r]
    unfold Tr.get
    rw [bits_step (Nat.succ_ne_zero k)]
    have hd : Nat.div (k + 1) 2 = (k + 1) / 2 := rfl
    have hm : Nat.mod (k + 1) 2 = (k + 1) % 2 := rfl
    rw [hd, hm]
    rcases Nat.mod_two_eq_zero_or_one (k + 1) with h | h
    · rw [h]; rfl
    · rw [h]; rfl

noncomputable def putQ (ih : Tr AObj → Nat → (Tr AObj → Ans) → Ans) (l : Tr AObj) (v : Option AObj) (r : Tr AObj) (k : Nat) (c : Tr AObj → Ans) (b : Nat) : Ans :=
  Nat.rec (motive := fun _ => Ans) (ih l k (fun x => c (.node x v r))) (fun _ _ => ih r k (fun x => c (.node l v x))) b
noncomputable def putP (o : Option AObj) (ih : Tr AObj → Nat → (Tr AObj → Ans) → Ans) (l : Tr AObj) (v : Option AObj) (r : Tr AObj) (k : Nat) (c : Tr AObj → Ans) : Ans :=
  Nat.rec (motive := fun _ => Ans) (c (.node l o r)) (fun _ _ => putQ ih l v r (Nat.div k 2) c (Nat.mod k 2)) k
noncomputable def putT (o : Option AObj) (f : Nat) : Tr AObj → Nat → (Tr AObj → Ans) → Ans :=
  Nat.rec (motive := fun _ => Tr AObj → Nat → (Tr AObj → Ans) → Ans) (fun _ _ _ => none)
    (fun _ ih t k c => Tr.rec (motive := fun _ => Ans) (putP o ih .leaf none .leaf k c) (fun l v r _ _ => putP o ih l v r k c) t) f

theorem putP_eq {o : Option AObj} {ih : Tr AObj → Nat → (Tr AObj → Ans) → Ans} {r : Value × AH} (hih : ∀ {t k c}, ih t k c = some r → c (t.set k o) = some r) {l : Tr AObj} {v : Option AObj} {r' : Tr AObj} {k : Nat} {c : Tr AObj → Ans}
    (h : putP o ih l v r' k c = some r) : c ((Tr.node l v r').set k o) = some r := by
  cases k with
  | zero => exact h
  | succ k =>
    have h' : Nat.rec (motive := fun _ => Ans) (ih l (Nat.div (k + 1) 2) (fun x => c (.node x v r'))) (fun _ _ => ih r' (Nat.div (k + 1) 2) (fun x => c (.node l v x))) (Nat.mod (k + 1) 2) = some r := h
    have hd : Nat.div (k + 1) 2 = (k + 1) / 2 := rfl
    have hm : Nat.mod (k + 1) 2 = (k + 1) % 2 := rfl
    rw [hd, hm] at h'
    unfold Tr.set
    rw [bits_step (Nat.succ_ne_zero k)]
    rcases Nat.mod_two_eq_zero_or_one (k + 1) with e | e
    · rw [e] at h' ⊢
      exact hih (c := fun x => c (.node x v r')) h'
    · rw [e] at h' ⊢
      exact hih (c := fun x => c (.node l v x)) h'

theorem put_leaf (o : Option AObj) (k : Nat) : (Tr.leaf : Tr AObj).set k o = (Tr.node .leaf none .leaf).set k o := by
  unfold Tr.set
  cases Tr.bitsOf k k with
  | nil => rfl
  | cons b bs => cases b <;> rfl

theorem putT_eq {o : Option AObj} {r : Value × AH} : ∀ {f : Nat} {t : Tr AObj} {k : Nat} {c : Tr AObj → Ans}, putT o f t k c = some r → c (t.set k o) = some r
  | 0, _, _, _, h => by cases h
  | f + 1, .leaf, k, c, h => by
    rw [put_leaf]
    exact putP_eq (fun h => putT_eq (f := f) h) h
  | f + 1, .node l v r', k, c, h => putP_eq (fun h => putT_eq (f := f) h) h

/-- The same along what is there; new ways by the one above. -/
noncomputable def putR (o : Option AObj) (t : Tr AObj) : Nat → (Tr AObj → Ans) → Ans :=
  Tr.rec (motive := fun _ => Nat → (Tr AObj → Ans) → Ans) (fun k c => putT o 64 .leaf k c)
    (fun l v r ihl ihr k c => Nat.rec (motive := fun _ => Ans) (c (.node l o r))
      (fun _ _ => Nat.rec (motive := fun _ => Ans) (ihl (Nat.div k 2) (fun x => c (.node x v r))) (fun _ _ => ihr (Nat.div k 2) (fun x => c (.node l v x))) (Nat.mod k 2)) k) t
theorem putR_eq {o : Option AObj} {r : Value × AH} : ∀ {t : Tr AObj} {k : Nat} {c : Tr AObj → Ans}, putR o t k c = some r → c (t.set k o) = some r
  | .leaf, _, _, h => putT_eq (f := 64) h
  | .node _ _ _, 0, _, h => h
  | .node l v r', k + 1, c, h => by
    have h' : Nat.rec (motive := fun _ => Ans) (putR o l (Nat.div (k + 1) 2) (fun x => c (.node x v r'))) (fun _ _ => putR o r' (Nat.div (k + 1) 2) (fun x => c (.node l v x))) (Nat.mod (k + 1) 2) = some r := h
    have hd : Nat.div (k + 1) 2 = (k + 1) / 2 := rfl
    have hm : Nat.mod (k + 1) 2 = (k + 1) % 2 := rfl
    rw [hd, hm] at h'
    unfold Tr.set
    rw [bits_step (Nat.succ_ne_zero k)]
    rcases Nat.mod_two_eq_zero_or_one (k + 1) with e | e
    · rw [e] at h' ⊢
      exact putR_eq (t := l) (c := fun x => c (.node x v r')) h'
    · rw [e] at h' ⊢
      exact putR_eq (t := r') (c := fun x => c (.node l v x)) h'

/-- Cells of a row: so many from one on. -/
noncomputable def takeO (n : Nat) : List Value → Option (List Value) :=
  Nat.rec (motive := fun _ => List Value → Option (List Value)) (fun _ => some [])
    (fun _ ih c => List.rec (motive := fun _ => Option (List Value)) none (fun x r _ => Option.rec (motive := fun _ => Option (List Value)) none (fun r' => some (x :: r')) (ih r)) c) n
noncomputable def segO (o n : Nat) : List Value → Option (List Value) :=
  Nat.rec (motive := fun _ => List Value → Option (List Value)) (fun c => takeO n c) (fun _ ih c => List.rec (motive := fun _ => Option (List Value)) none (fun _ r _ => ih r) c) o
theorem takeO_eq : ∀ {n : Nat} {c l : List Value}, takeO n c = some l → n ≤ c.length ∧ l = c.take n
  | 0, c, l, h => by cases h; exact ⟨by omega, by simp⟩
  | n + 1, [], l, h => by cases h
  | n + 1, x :: c, l, h => by
    have h' : Option.rec (motive := fun _ => Option (List Value)) none (fun r' => some (x :: r')) (takeO n c) = some l := h
    cases he : takeO n c with
    | none => rw [he] at h'; cases h'
    | some r =>
      rw [he] at h'
      cases h'
      obtain ⟨h1, rfl⟩ := takeO_eq he
      exact ⟨by simpa using h1, rfl⟩
theorem segO_eq {n : Nat} : ∀ {o : Nat} {c l : List Value}, segO o n c = some l → o + n ≤ c.length ∧ l = (c.drop o).take n
  | 0, c, l, h => by
    obtain ⟨h1, h2⟩ := takeO_eq (n := n) (c := c) h
    exact ⟨by omega, by simpa using h2⟩
  | o + 1, [], l, h => by cases h
  | o + 1, x :: c, l, h => by
    obtain ⟨h1, h2⟩ := segO_eq (o := o) (c := c) h
    exact ⟨by simp only [List.length_cons]; omega, by simpa using h2⟩
noncomputable def segC (o n : Nat) (c : List Value) (k : List Value → Ans) : Ans := Option.rec (motive := fun _ => Ans) none k (segO o n c)
theorem segC_eq {n : Nat} {r : Value × AH} {o : Nat} {c : List Value} {k : List Value → Ans} (h : segC o n c k = some r) : o + n ≤ c.length ∧ k ((c.drop o).take n) = some r := by
  unfold segC at h
  cases he : segO o n c with
  | none => rw [he] at h; cases h
  | some l =>
    rw [he] at h
    obtain ⟨h1, rfl⟩ := segO_eq he
    exact ⟨h1, h⟩

/-- A new block. -/
noncomputable def allocC (o : AObj) (H : AH) (k : Value → AH → Ans) : Ans :=
  AH.rec (motive := fun _ => Ans) (fun tr nx => putR (some o) tr nx (fun tr' => k (ptr nx 0) ⟨tr', Nat.succ nx⟩)) H
theorem allocC_eq {o : AObj} {H : AH} {k : Value → AH → Ans} {r : Value × AH} (h : allocC o H k = some r) : k (ptr H.next 0) (H.alloc o) = some r := by
  obtain ⟨tr, nx⟩ := H
  exact putR_eq (c := fun tr' => k (ptr nx 0) ⟨tr', Nat.succ nx⟩) h
noncomputable def setH (o : AObj) (b : Nat) (H : AH) (k : AH → Ans) : Ans :=
  AH.rec (motive := fun _ => Ans) (fun tr nx => putR (some o) tr b (fun tr' => k ⟨tr', nx⟩)) H
theorem setH_eq {o : AObj} {b : Nat} {H : AH} {k : AH → Ans} {r : Value × AH} (h : setH o b H k = some r) : k (H.set b o) = some r := by
  obtain ⟨tr, nx⟩ := H
  exact putR_eq (c := fun tr' => k ⟨tr', nx⟩) h

end Go.Fv
