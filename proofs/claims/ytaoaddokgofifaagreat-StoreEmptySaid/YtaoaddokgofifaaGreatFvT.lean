/- Tables of a program, for looking up quickly. -/
import Derived.Test.YtaoaddokgofifaaGreatEvQ
namespace Go.Fv
open Go.Ev

inductive Bt (α : Type) where
  | lf
  | nd (v : α) (l r : Bt α)

section
variable {α : Type}
/-- Every second one, from the first on. -/
noncomputable def evens (l : List α) : List α :=
  List.rec (motive := fun _ => Bool → List α) (fun _ => []) (fun x _ ih b => Bool.rec (motive := fun _ => List α) (ih true) (x :: ih false) b) l true
noncomputable def odds (l : List α) : List α :=
  List.rec (motive := fun _ => Bool → List α) (fun _ => []) (fun x _ ih b => Bool.rec (motive := fun _ => List α) (ih true) (x :: ih false) b) l false
noncomputable def ofB (n : Nat) : List α → Bt α :=
  Nat.rec (motive := fun _ => List α → Bt α) (fun _ => .lf) (fun _ ih l => List.rec (motive := fun _ => Bt α) .lf (fun x xs _ => .nd x (ih (evens xs)) (ih (odds xs))) l) n
noncomputable def getB (t : Bt α) : Nat → Option α :=
  Bt.rec (motive := fun _ => Nat → Option α) (fun _ => none)
    (fun v _ _ ihl ihr k => Nat.rec (motive := fun _ => Option α) (some v) (fun j _ => Nat.rec (motive := fun _ => Option α) (ihl (Nat.div j 2)) (fun _ _ => ihr (Nat.div j 2)) (Nat.mod j 2)) k) t

noncomputable def everyB (b : Bool) (l : List α) : List α :=
  List.rec (motive := fun _ => Bool → List α) (fun _ => []) (fun x _ ih b => Bool.rec (motive := fun _ => List α) (ih true) (x :: ih false) b) l b
theorem everyB_get : ∀ (l : List α) (b : Bool) (j : Nat), (everyB b l)[j]? = l[2 * j + (if b then 0 else 1)]?
  | [], b, j => by show ([] : List α)[j]? = _; simp
  | x :: l, true, 0 => rfl
  | x :: l, true, j + 1 => by
    show (x :: everyB false l)[j + 1]? = _
    rw [List.getElem?_cons_succ, everyB_get l false j]
    simp only [if_true, Bool.false_eq_true, if_false]
    rw [show 2 * (j + 1) + 0 = (2 * j + 1) + 1 by omega, List.getElem?_cons_succ]
  | x :: l, false, j => by
    show (everyB true l)[j]? = _
    rw [everyB_get l true j]
    simp only [if_true, Bool.false_eq_true, if_false]
    rw [List.getElem?_cons_succ, Nat.add_zero]

theorem getB_ofB : ∀ (n : Nat) (l : List α) (k : Nat) (v : α), getB (ofB n l) k = some v → l[k]? = some v
  | 0, _, _, _, h => by cases h
  | n + 1, [], _, _, h => by cases h
  | n + 1, x :: xs, 0, v, h => h
  | n + 1, x :: xs, j + 1, v, h => by
    have h' : Nat.rec (motive := fun _ => Option α) (getB (ofB n (everyB true xs)) (Nat.div j 2)) (fun _ _ => getB (ofB n (everyB false xs)) (Nat.div j 2)) (Nat.mod j 2) = some v := h
    have hd : Nat.div j 2 = j / 2 := rfl
    have hm : Nat.mod j 2 = j % 2 := rfl
    rw [hd, hm] at h'
    rw [List.getElem?_cons_succ]
    rcases Nat.mod_two_eq_zero_or_one j with e | e
    · rw [e] at h'
      have := getB_ofB n _ _ _ h'
      rw [everyB_get] at this
      rw [show j = 2 * (j / 2) + 0 by omega]
      simpa using this
    · rw [e] at h'
      have := getB_ofB n _ _ _ h'
      rw [everyB_get] at this
      rw [show j = 2 * (j / 2) + 1 by omega]
      simpa using this
end

/-- A program's tables. -/
noncomputable def infB (tys : Bt TypeInfo) (t : TypeId) : Option TypeInfo := getB tys t
noncomputable def undB (tys : Bt TypeInfo) (t : TypeId) : Option TypeDesc :=
  match getB tys t with
  | some i => match i.desc with
    | .named _ u => (getB tys u).map (·.desc)
    | d => some d
  | none => none
noncomputable def tabT (_ : Program) (tys : Bt TypeInfo) (fns : Bt Func) : TT := ⟨undB tys, infB tys, getB fns⟩

theorem undB_ok {P : Program} {tys : Bt TypeInfo} (h : ∀ k v, getB tys k = some v → P.info? k = some v) (t : TypeId) (d : TypeDesc) (hd : undB tys t = some d) : P.underlying t = some d := by
  unfold undB at hd
  unfold Program.underlying
  cases hg : getB tys t with
  | none => rw [hg] at hd; cases hd
  | some i =>
    rw [hg] at hd
    rw [h _ _ hg]
    obtain ⟨desc⟩ := i
    cases desc <;> first | exact hd | skip
    rename_i u
    simp only at hd ⊢
    cases hu : getB tys u with
    | none => rw [hu] at hd; cases hd
    | some x => rw [hu] at hd; rw [h _ _ hu]; exact hd
end Go.Fv
