/- What it is for an abstract heap and a world of the model to say the same. -/
import Derived.Test.YtaoaddokgofifaaGreatEvA
namespace Go.Ev
open Go.RowKit

inductive All2 {α β : Type} (R : α → β → Prop) : List α → List β → Prop where
  | nil : All2 R [] []
  | cons {a b l r} : R a b → All2 R l r → All2 R (a :: l) (b :: r)

namespace All2
variable {α β : Type} {R S : α → β → Prop}
theorem mono (h : ∀ a b, R a b → S a b) {l : List α} {r : List β} (k : All2 R l r) : All2 S l r := by
  induction k with
  | nil => exact .nil
  | cons a _ ih => exact .cons (h _ _ a) ih
theorem length {l : List α} {r : List β} (k : All2 R l r) : l.length = r.length := by
  induction k with
  | nil => rfl
  | cons _ _ ih => simp [ih]
theorem get {l : List α} {r : List β} (k : All2 R l r) : ∀ (i : Nat) (a : α), l[i]? = some a → ∃ b, r[i]? = some b ∧ R a b := by
  induction k with
  | nil => intro i a h; simp at h
  | cons x _ ih =>
    intro i a h
    cases i with
    | zero => simp at h; subst h; exact ⟨_, rfl, x⟩
    | succ i => simpa using ih i a (by simpa using h)
theorem get_none {l : List α} {r : List β} (k : All2 R l r) (i : Nat) (h : l[i]? = none) : r[i]? = none := by
  have := k.length
  simp only [List.getElem?_eq_none_iff] at *
  omega
theorem of_get : ∀ {l : List α} {r : List β}, l.length = r.length → (∀ (i : Nat) (a : α), l[i]? = some a → ∃ b, r[i]? = some b ∧ R a b) → All2 R l r
  | [], [], _, _ => .nil
  | [], _ :: _, h, _ => by simp at h
  | _ :: _, [], h, _ => by simp at h
  | a :: l, b :: r, h, k => by
    obtain ⟨b', hb, hR⟩ := k 0 a rfl
    simp at hb; subst hb
    exact .cons hR (of_get (by simpa using h) fun i x hx => by simpa using k (i + 1) x (by simpa using hx))
theorem append {l l' : List α} {r r' : List β} (h : All2 R l r) (h' : All2 R l' r') : All2 R (l ++ l') (r ++ r') := by
  induction h with
  | nil => exact h'
  | cons a _ ih => exact .cons a ih
theorem set {l : List α} {r : List β} (h : All2 R l r) {a : α} {b : β} (hab : R a b) : ∀ i : Nat, All2 R (l.set i a) (r.set i b) := by
  induction h with
  | nil => intro i; exact .nil
  | cons x y ih =>
    intro i
    cases i with
    | zero => exact .cons hab y
    | succ i => exact .cons x (ih i)
theorem drop {l : List α} {r : List β} (h : All2 R l r) : ∀ i : Nat, All2 R (l.drop i) (r.drop i) := by
  induction h with
  | nil => intro i; simpa using All2.nil
  | cons x y ih => intro i; cases i with
    | zero => exact .cons x y
    | succ i => simpa using ih i
theorem take {l : List α} {r : List β} (h : All2 R l r) : ∀ i : Nat, All2 R (l.take i) (r.take i) := by
  induction h with
  | nil => intro i; simpa using All2.nil
  | cons x y ih => intro i; cases i with
    | zero => exact .nil
    | succ i => simpa using All2.cons x (ih i)
theorem replicate {a : α} {b : β} (h : R a b) : ∀ n : Nat, All2 R (List.replicate n a) (List.replicate n b)
  | 0 => .nil
  | n + 1 => .cons h (replicate h n)
theorem of_eq {R : α → α → Prop} : ∀ {l : List α}, (∀ a ∈ l, R a a) → All2 R l l
  | [], _ => .nil
  | _ :: _, h => .cons (h _ (List.mem_cons_self ..)) (of_eq fun a ha => h a (List.mem_cons_of_mem _ ha))
theorem map {γ δ : Type} {S : γ → δ → Prop} {f : α → γ} {g : β → δ} {l : List α} {r : List β} (h : All2 R l r) (k : ∀ a b, R a b → S (f a) (g b)) : All2 S (l.map f) (r.map g) := by
  induction h with
  | nil => exact .nil
  | cons a _ ih => exact .cons (k _ _ a) ih
end All2

/-- Where an abstract block lies: a block of the world, from which cell on, and how many cells that block has. -/
structure Pl where
  b : Nat
  d : Nat
  L : Nat

abbrev Inj := Nat → Option Pl

def Inj.le (ρ ρ' : Inj) : Prop := ∀ k p, ρ k = some p → ρ' k = some p
theorem Inj.le_refl (ρ : Inj) : ρ.le ρ := fun _ _ h => h
theorem Inj.le_trans {a b c : Inj} (h : a.le b) (h' : b.le c) : a.le c := fun k p x => h' k p (h k p x)
def Inj.ext (ρ : Inj) (k : Nat) (p : Pl) : Inj := fun j => if j = k then some p else ρ j
theorem Inj.le_ext {ρ : Inj} {k : Nat} {p : Pl} (h : ρ k = none) : ρ.le (ρ.ext k p) := fun j q hj => by
  unfold Inj.ext
  split
  · rename_i e; subst e; rw [h] at hj; cases hj
  · exact hj
theorem Inj.ext_same (ρ : Inj) (k : Nat) (p : Pl) : ρ.ext k p k = some p := by simp [Inj.ext]
theorem Inj.ext_other (ρ : Inj) {k j : Nat} (p : Pl) (h : j ≠ k) : ρ.ext k p j = ρ j := by simp [Inj.ext, h]

/-- The capacity that a slice has in the world, and what the evaluator says of it; o: the cell at which it begins, L: how many cells its block has. -/
def capR (c n c' o L : Nat) : Prop := n ≤ c' ∧ (c % 2 = 1 → c = 2 * c' + 1) ∧ (c % 2 = 0 → o + c' * (c / 2) ≤ L)

inductive BR (ρ : Inj) : Value → Value → Prop where
  | bool (b : Bool) : BR ρ (.bool b) (.bool b)
  | int (k : IntKind) (n : Int) : BR ρ (.int k n) (.int k n)
  | string (s : ByteArray) : BR ρ (.string s) (.string s)
  | nilPtr : BR ρ (.pointer none) (.pointer none)
  | ptr {b o : Nat} {p : Pl} : ρ b = some p → BR ρ (.pointer (some ⟨b, o, none⟩)) (.pointer (some ⟨p.b, p.d + o, none⟩))
  | nilSlice : BR ρ (.slice none 0 0) (.slice none 0 0)
  | slice {b o n c c' : Nat} {p : Pl} : ρ b = some p → capR c n c' (p.d + o) p.L → BR ρ (.slice (some ⟨b, o, none⟩) n c) (.slice (some ⟨p.b, p.d + o, none⟩) n c')
  | slice0 {b o o' c c' : Nat} {p : Pl} : ρ b = some p → p.d ≤ o' → capR c 0 c' o' p.L → (c % 2 = 1 → c' = 0) → BR ρ (.slice (some ⟨b, o, none⟩) 0 c) (.slice (some ⟨p.b, o', none⟩) 0 c')
  | nilMap : BR ρ (.map none) (.map none)
  | map {r r' : Nat} : ρ r = some ⟨r', 0, 0⟩ → BR ρ (.map (some r)) (.map (some r'))
  | nilChan : BR ρ (.chan none) (.chan none)
  | chan {r r' : Nat} : ρ r = some ⟨r', 0, 0⟩ → BR ρ (.chan (some r)) (.chan (some r'))
  | nilFunc : BR ρ .nilFunc .nilFunc
  | nilIface : BR ρ .nilIface .nilIface

inductive SR (ρ : Inj) : Value → Value → Prop where
  | base {v v' : Value} : BR ρ v v' → SR ρ v v'
  | func {f : FuncId} {c c' : Array Value} : All2 (BR ρ) c.toList c'.toList → SR ρ (.func (.func f) #[] c) (.func (.func f) #[] c')
  | yield {l l' : Nat} : ρ l = some ⟨l', 0, 0⟩ → SR ρ (.func (.yield l) #[] #[]) (.func (.yield l') #[] #[])

inductive VR (ρ : Inj) : Value → Value → Prop where
  | one {v v' : Value} : SR ρ v v' → VR ρ v v'
  | agg {c c' : Array Value} : All2 (SR ρ) c.toList c'.toList → VR ρ (.agg c) (.agg c')

inductive TV (ρ : Inj) : Value → Value → Prop where
  | val {v v' : Value} : VR ρ v v' → TV ρ v v'
  | tuple {c c' : Array Value} : All2 (VR ρ) c.toList c'.toList → TV ρ (.tuple c) (.tuple c')

section
variable {ρ ρ' : Inj}
theorem BR.mono (h : ρ.le ρ') {v v' : Value} (k : BR ρ v v') : BR ρ' v v' := by
  cases k with
  | bool b => exact .bool b
  | int k n => exact .int k n
  | string s => exact .string s
  | nilPtr => exact .nilPtr
  | ptr e => exact .ptr (h _ _ e)
  | nilSlice => exact .nilSlice
  | slice e c => exact .slice (h _ _ e) c
  | slice0 e c k l => exact .slice0 (h _ _ e) c k l
  | nilMap => exact .nilMap
  | map e => exact .map (h _ _ e)
  | nilChan => exact .nilChan
  | chan e => exact .chan (h _ _ e)
  | nilFunc => exact .nilFunc
  | nilIface => exact .nilIface
theorem SR.mono (h : ρ.le ρ') {v v' : Value} (k : SR ρ v v') : SR ρ' v v' := by
  cases k with
  | base k => exact .base (k.mono h)
  | func k => exact .func (k.mono fun _ _ x => x.mono h)
  | yield e => exact .yield (h _ _ e)
theorem VR.mono (h : ρ.le ρ') {v v' : Value} (k : VR ρ v v') : VR ρ' v v' := by
  cases k with
  | one k => exact .one (k.mono h)
  | agg k => exact .agg (k.mono fun _ _ x => x.mono h)
theorem TV.mono (h : ρ.le ρ') {v v' : Value} (k : TV ρ v v') : TV ρ' v v' := by
  cases k with
  | val k => exact .val (k.mono h)
  | tuple k => exact .tuple (k.mono fun _ _ x => x.mono h)

theorem SR.one1 {v v' : Value} (k : SR ρ v v') : one1 v = true ∧ one1 v' = true := by
  cases k with
  | base k => cases k <;> exact ⟨rfl, rfl⟩
  | func _ => exact ⟨rfl, rfl⟩
  | yield _ => exact ⟨rfl, rfl⟩
theorem SR.flat1 {v v' : Value} (k : SR ρ v v') (hf : flat1 v = true) : v = v' := by
  cases k with
  | base k => cases k <;> first | rfl | cases hf
  | func _ => cases hf
  | yield _ => cases hf
theorem SR.flat1' {v v' : Value} (k : SR ρ v v') : Ev.flat1 v' = Ev.flat1 v := by
  cases k with
  | base k => cases k <;> rfl
  | func _ => rfl
  | yield _ => rfl
theorem all2_flat {l r : List Value} (h : All2 (SR ρ) l r) (hf : l.all Ev.flat1 = true) : l = r := by
  induction h with
  | nil => rfl
  | cons a _ ih =>
    simp only [List.all_cons, Bool.and_eq_true] at hf
    rw [a.flat1 hf.1, ih hf.2]
theorem VR.flat {v v' : Value} (k : VR ρ v v') (hf : flatV v = true) : v = v' := by
  cases k with
  | one k =>
    refine k.flat1 ?_
    cases k with
    | base k => cases k <;> exact hf
    | func _ => exact hf
    | yield _ => exact hf
  | agg k =>
    have := all2_flat k hf
    rw [Array.toList_inj] at this
    rw [this]
theorem TV.flat {v v' : Value} (k : TV ρ v v') (hf : flatV v = true) : v = v' := by
  cases k with
  | val k => exact k.flat hf
  | tuple _ => cases hf

theorem BR.closed {v : Value} (h : closed1 v = true) : BR ρ v v := by
  unfold closed1 at h
  split at h <;> first | constructor | cases h
theorem SR.closed {v : Value} (h : closed1 v = true) : SR ρ v v := .base (BR.closed h)
theorem all2_closed {l : List Value} (h : l.all closed1 = true) : All2 (SR ρ) l l :=
  All2.of_eq fun a ha => SR.closed (List.all_eq_true.1 h a ha)
theorem closed1_one {v : Value} (h : closed1 v = true) : Ev.one1 v = true := (SR.one1 (SR.closed (ρ := fun _ => none) h)).1

/-- The cells of a value. -/
theorem TV.cells {v v' : Value} (k : TV ρ v v') (h : v.cells.toList.all Ev.one1 = true) : All2 (SR ρ) v.cells.toList v'.cells.toList := by
  cases k with
  | val k =>
    cases k with
    | agg k => exact k
    | one k =>
      have h1 : v.cells = #[v] := by
        cases k with
        | base k => cases k <;> rfl
        | func _ => rfl
        | yield _ => rfl
      have h2 : v'.cells = #[v'] := by
        cases k with
        | base k => cases k <;> rfl
        | func _ => rfl
        | yield _ => rfl
      rw [h1, h2]
      exact .cons k .nil
  | tuple k => simp [Value.cells, Ev.one1] at h

theorem TV.undef : TV ρ Go.undef Go.undef := .tuple .nil

theorem TV.closedV {v : Value} (h : v.cells.toList.all closed1 = true) : VR ρ v v := by
  cases v <;> first | exact .agg (all2_closed h) | exact .one (SR.closed (by simpa [Value.cells] using h))

/-- A value whose cells are scalars and its pair. -/
theorem VR.of_cells_agg {c c' : List Value} (k : All2 (SR ρ) c c') : VR ρ (.agg c.toArray) (.agg c'.toArray) := .agg (by simpa using k)
end

/-! ### Memory -/
structure ER (ρ : Inj) (e e' : MapEntry) : Prop where
  key : e.key = e'.key
  flat : flatV e.key = true
  val : VR ρ e.val e'.val
  born : e.born = e'.born

inductive OR (ρ : Inj) (d L : Nat) : AObj → Obj → Prop where
  | cells {c : List Value} {c' : Array Value} {e : TypeId} {fz : Nat × Nat} :
      (∀ (i : Nat) (v : Value), c[i]? = some v → ∃ v', c'[d + i]? = some v' ∧ SR ρ v v') →
      (∀ i, d ≤ i → i < L → ¬ (fz.1 ≤ i ∧ i < fz.2)) → (c.length ≠ 0 → d + c.length ≤ L) → L ≤ c'.size → OR ρ d L (.cells c e) (.cells c' e fz)
  | map {es : List MapEntry} {es' : Array MapEntry} {cl : Nat} : d = 0 → All2 (ER ρ) es es'.toList → OR ρ d L (.map es cl) (.map es' cl)
  | chan {cap s r : Nat} {buf : List Value} {buf' : Array Value} : d = 0 → All2 (VR ρ) buf buf'.toList → OR ρ d L (.chan cap buf s r) (.chan cap buf' false s r false)
  | loop {st : LoopState} {pend : Option Code} {t : List Value} {t' : Array Value} {ps : Array Tmp} {a b : Code} {fn : FuncId} {df : Nat} :
      d = 0 → All2 (TV ρ) t t'.toList → codeOK a = true → codeOK b = true →
      OR ρ d L (.loop st pend t ps a b) (.loop { state := st, pending := pend, fn := fn, tmps := t', params := ps, assign := a, body := b, defers := df })

theorem ER.mono {ρ ρ' : Inj} (h : ρ.le ρ') {e e' : MapEntry} (k : ER ρ e e') : ER ρ' e e' := ⟨k.key, k.flat, k.val.mono h, k.born⟩

theorem OR.mono {ρ ρ' : Inj} (h : ρ.le ρ') {d L : Nat} {o : AObj} {o' : Obj} (k : OR ρ d L o o') : OR ρ' d L o o' := by
  cases k with
  | cells a b e f => exact .cells (fun i v hv => let ⟨v', h1, h2⟩ := a i v hv; ⟨v', h1, h2.mono h⟩) b e f
  | map a b => exact .map a (b.mono fun _ _ x => x.mono h)
  | chan a b => exact .chan a (b.mono fun _ _ x => x.mono h)
  | loop a b c d => exact .loop a (b.mono fun _ _ x => x.mono h) c d

structure MR (ρ : Inj) (H : AH) (w : World) : Prop where
  dom : ∀ k p, ρ k = some p → k < H.next
  blk : ∀ k o p, H.get k = some o → ρ k = some p → ∃ O, w.heap[p.b]? = some O ∧ OR ρ p.d p.L o O
  inj : ∀ k k' o o' p p', H.get k = some o → H.get k' = some o' → ρ k = some p → ρ k' = some p' → p.b = p'.b → k = k'

/-- Block b of the world is one of the heap's. -/
def Held (ρ : Inj) (H : AH) (b : Nat) : Prop := ∃ k o p, H.get k = some o ∧ ρ k = some p ∧ p.b = b

/-- A record of a loop lies there. -/
def AObj.isLoop : AObj → Bool
  | .loop .. => true
  | _ => false
def LoopAt (H : AH) (k : Nat) : Prop := ∃ o, H.get k = some o ∧ o.isLoop = true

/-- A place within one that is held. -/
def HeldIn (ρ : Inj) (H : AH) (p : Pl) : Prop := ∃ k o q, H.get k = some o ∧ ρ k = some q ∧ q.b = p.b ∧ q.d ≤ p.d ∧ p.L ≤ q.L
theorem HeldIn.held {ρ : Inj} {H : AH} {p : Pl} (h : HeldIn ρ H p) : Held ρ H p.b := by
  obtain ⟨k, o, q, h1, h2, h3, _⟩ := h
  exact ⟨k, o, q, h1, h2, h3⟩

/-- A row of cells is as it was outside a part of it. -/
def Outs (d L : Nat) (O O' : Obj) : Prop := ∀ c e fz, O = .cells c e fz → ∃ c', O' = .cells c' e fz ∧ c'.size = c.size ∧ ∀ j, (j < d ∨ L ≤ j) → c'[j]? = c[j]?
theorem Outs.refl (d L : Nat) (O : Obj) : Outs d L O O := fun c _ _ h => ⟨c, h, rfl, fun _ _ => rfl⟩
theorem Outs.trans {d L d' L' : Nat} {O O₁ O₂ : Obj} (h : Outs d L O O₁) (h' : Outs d' L' O₁ O₂) (hd : d ≤ d') (hL : L' ≤ L) : Outs d L O O₂ := fun c e fz ho => by
  obtain ⟨c1, h1, h2, h3⟩ := h c e fz ho
  obtain ⟨c2, h4, h5, h6⟩ := h' c1 e fz h1
  exact ⟨c2, h4, h5.trans h2, fun j hj => (h6 j (by omega)).trans (h3 j hj)⟩

/-- What lies between the state ahead of a run and the one behind it. -/
structure Post (ρ : Inj) (H : AH) (w : World) (ρ' : Inj) (H' : AH) (w' : World) : Prop where
  le : ρ.le ρ'
  mr : MR ρ' H' w'
  size : w.heap.size ≤ w'.heap.size
  frame : ∀ b, b < w.heap.size → ¬ Held ρ H b → w'.heap[b]? = w.heap[b]?
  new : ∀ k p, ρ k = none → ρ' k = some p → H.next ≤ k ∧ (w.heap.size ≤ p.b ∨ HeldIn ρ H p)
  keep : ∀ k, k < H.next → ρ k = none → H'.get k = H.get k
  next : H.next ≤ H'.next
  dead : ∀ k, k < H.next → H.get k = none → H'.get k = none
  loops : ∀ k, k < H.next → LoopAt H k → LoopAt H' k
  outs : ∀ k o p O, H.get k = some o → ρ k = some p → w.heap[p.b]? = some O → ∃ O', w'.heap[p.b]? = some O' ∧ Outs p.d p.L O O'
  os : w'.os = w.os
  output : w'.output = w.output

theorem MR.held_lt {ρ : Inj} {H : AH} {w : World} (h : MR ρ H w) {b : Nat} (k : Held ρ H b) : b < w.heap.size := by
  obtain ⟨j, o, p, h1, h2, rfl⟩ := k
  obtain ⟨O, hO, _⟩ := h.blk j o p h1 h2
  exact (Array.getElem?_eq_some_iff.1 hO).1

theorem Post.refl {ρ : Inj} {H : AH} {w : World} (h : MR ρ H w) : Post ρ H w ρ H w :=
  ⟨ρ.le_refl, h, Nat.le_refl _, fun _ _ _ => rfl, fun k p h1 h2 => (by rw [h1] at h2; cases h2), fun _ _ _ => rfl, Nat.le_refl _, fun _ _ h => h, fun _ _ h => h, fun _ _ p O _ _ h => ⟨O, h, .refl _ _ _⟩, rfl, rfl⟩

theorem Post.held {ρ ρ' : Inj} {H H' : AH} {w w' : World} (hm : MR ρ H w) (h : Post ρ H w ρ' H' w') {b : Nat} (hb : b < w.heap.size) (k : Held ρ' H' b) : Held ρ H b := by
  obtain ⟨j, o, p, h1, h2, rfl⟩ := k
  cases hr : ρ j with
  | none =>
    rcases (h.new j p hr h2).2 with h3 | h3
    · omega
    · exact h3.held
  | some q =>
    have hp := h.le j q hr
    rw [h2] at hp; cases hp
    have hlt : j < H.next := hm.dom j _ hr
    cases hg : H.get j with
    | none => rw [h.dead j hlt hg] at h1; cases h1
    | some o' => exact ⟨j, o', p, hg, hr, rfl⟩

/-- What is held behind, of what was there, is within what was held. -/
theorem Post.heldIn {ρ ρ' : Inj} {H H' : AH} {w w' : World} (hm : MR ρ H w) (h : Post ρ H w ρ' H' w') {q : Pl} (hb : q.b < w.heap.size) (k : HeldIn ρ' H' q) : HeldIn ρ H q := by
  obtain ⟨j, o, p, h1, h2, e, hd, hL⟩ := k
  cases hr : ρ j with
  | none =>
    rcases (h.new j p hr h2).2 with h3 | ⟨k', o', q', g1, g2, g3, g4, g5⟩
    · omega
    · exact ⟨k', o', q', g1, g2, g3.trans e, Nat.le_trans g4 hd, Nat.le_trans hL g5⟩
  | some q' =>
    have hp := h.le j q' hr
    rw [h2] at hp; cases hp
    have hlt : j < H.next := hm.dom j _ hr
    cases hg : H.get j with
    | none => rw [h.dead j hlt hg] at h1; cases h1
    | some o' => exact ⟨j, o', p, hg, hr, e, hd, hL⟩

theorem Post.trans {ρ ρ₁ ρ₂ : Inj} {H H₁ H₂ : AH} {w w₁ w₂ : World} (hm : MR ρ H w) (h : Post ρ H w ρ₁ H₁ w₁) (h' : Post ρ₁ H₁ w₁ ρ₂ H₂ w₂) : Post ρ H w ρ₂ H₂ w₂ where
  le := Inj.le_trans h.le h'.le
  mr := h'.mr
  size := Nat.le_trans h.size h'.size
  frame := fun b hb hn => by
    rw [h'.frame b (Nat.lt_of_lt_of_le hb h.size) (fun k => hn (h.held hm hb k)), h.frame b hb hn]
  new := fun k p h1 h2 => by
    cases hr : ρ₁ k with
    | some q =>
      have := h'.le k q hr
      rw [h2] at this; cases this
      exact h.new k p h1 hr
    | none =>
      obtain ⟨h3, h4⟩ := h'.new k p hr h2
      refine ⟨Nat.le_trans h.next h3, ?_⟩
      rcases h4 with h4 | h4
      · exact .inl (Nat.le_trans h.size h4)
      · rcases Nat.lt_or_ge p.b w.heap.size with hb | hb
        · exact .inr (h.heldIn hm hb h4)
        · exact .inl hb
  keep := fun k hk hr => by
    have h1 : ρ₁ k = none := by
      cases hr1 : ρ₁ k with
      | none => rfl
      | some p =>
        have := (h.new k p hr hr1).1
        omega
    rw [h'.keep k (Nat.lt_of_lt_of_le hk h.next) h1, h.keep k hk hr]
  next := Nat.le_trans h.next h'.next
  dead := fun k hk hg => h'.dead k (Nat.lt_of_lt_of_le hk h.next) (h.dead k hk hg)
  loops := fun k hk hg => h'.loops k (Nat.lt_of_lt_of_le hk h.next) (h.loops k hk hg)
  outs := fun k o p O hg hk hO => by
    obtain ⟨O₁, h1, h2⟩ := h.outs k o p O hg hk hO
    have hb : p.b < w.heap.size := (Array.getElem?_eq_some_iff.1 hO).1
    by_cases hh : Held ρ₁ H₁ p.b
    · obtain ⟨k1, o1, p1, g1, g2, g3⟩ := hh
      obtain ⟨O₂, h3, h4⟩ := h'.outs k1 o1 p1 O₁ g1 g2 (by rw [g3]; exact h1)
      obtain ⟨k2, o2, p2, f1, f2, f3, f4, f5⟩ := h.heldIn hm (q := p1) (by rw [g3]; exact hb) ⟨k1, o1, p1, g1, g2, rfl, Nat.le_refl _, Nat.le_refl _⟩
      have := hm.inj k k2 o o2 p p2 hg f1 hk f2 (by rw [f3, g3])
      subst this
      rw [hk] at f2; cases f2
      rw [g3] at h3
      exact ⟨O₂, h3, h2.trans h4 f4 f5⟩
    · exact ⟨O₁, (h'.frame p.b (Nat.lt_of_lt_of_le hb h.size) hh).trans h1, h2⟩
  os := h'.os.trans h.os
  output := h'.output.trans h.output

/-- A world that differs in nothing but its draws and its outside. -/
theorem MR.heap {ρ : Inj} {H : AH} {w w' : World} (h : MR ρ H w) (e : w'.heap = w.heap) : MR ρ H w' :=
  ⟨h.dom, fun k o p h1 h2 => by rw [e]; exact h.blk k o p h1 h2, h.inj⟩

theorem Post.heap {ρ ρ' : Inj} {H H' : AH} {w w₁ w' : World} (h : Post ρ H w ρ' H' w') (e : w.heap = w₁.heap) (e1 : w.os = w₁.os := by rfl) (e2 : w.output = w₁.output := by rfl) : Post ρ H w₁ ρ' H' w' :=
  ⟨h.le, h.mr, e ▸ h.size, fun b => e ▸ h.frame b, fun k p => e ▸ h.new k p, h.keep, h.next, h.dead, h.loops, fun k o p O => e ▸ h.outs k o p O, h.os.trans e1, h.output.trans e2⟩

theorem Post.heap' {ρ ρ' : Inj} {H H' : AH} {w w' w₁ : World} (h : Post ρ H w ρ' H' w') (e : w₁.heap = w'.heap) (e1 : w₁.os = w'.os := by rfl) (e2 : w₁.output = w'.output := by rfl) : Post ρ H w ρ' H' w₁ :=
  ⟨h.le, h.mr.heap e, e ▸ h.size, fun b => e ▸ h.frame b, h.new, h.keep, h.next, h.dead, h.loops, fun k o p O h1 h2 h3 => by rw [e]; exact h.outs k o p O h1 h2 h3, e1.trans h.os, e2.trans h.output⟩

/-- How many cells an object of the world has. -/
def cellsOfObj : Obj → Nat
  | .cells c _ _ => c.size
  | _ => 0

/-- A block is laid on both sides. -/
theorem Post.alloc {ρ : Inj} {H : AH} {w : World} (h : MR ρ H w) {o : AObj} {O : Obj} {L : Nat} (ho : OR ρ 0 L o O) :
    Post ρ H w (ρ.ext H.next ⟨w.heap.size, 0, L⟩) (H.alloc o) (w.alloc O) := by
  have hnone : ρ H.next = none := by
    cases hr : ρ H.next with
    | none => rfl
    | some p => exact absurd (h.dom _ _ hr) (Nat.lt_irrefl _)
  have hle := Inj.le_ext (p := ⟨w.heap.size, 0, L⟩) hnone
  have hheap : ∀ b, b < w.heap.size → (w.alloc O).heap[b]? = w.heap[b]? := fun b hb => by
    show (w.heap.push O)[b]? = _
    rw [Array.getElem?_push]; simp [Nat.ne_of_lt hb]
  refine ⟨hle, ⟨?_, ?_, ?_⟩, by simp, fun b hb _ => hheap b hb, ?_, ?_, by simp, ?_, ?_, fun k o p O _ _ hO => ⟨O, (hheap p.b (Array.getElem?_eq_some_iff.1 hO).1).trans hO, .refl _ _ _⟩, rfl, rfl⟩
  · intro k p hk
    unfold Inj.ext at hk
    split at hk
    · rename_i e; subst e; simp
    · exact Nat.lt_succ_of_lt (h.dom k p hk)
  · intro k o' p hg hk
    by_cases e : k = H.next
    · subst e
      rw [AH.get_alloc_same] at hg; cases hg
      rw [Inj.ext_same] at hk; cases hk
      exact ⟨O, World.alloc_heap_new w O, ho.mono hle⟩
    · rw [AH.get_alloc_other _ _ e] at hg
      rw [Inj.ext_other _ _ e] at hk
      obtain ⟨O', h1, h2⟩ := h.blk k o' p hg hk
      exact ⟨O', (hheap p.b (Array.getElem?_eq_some_iff.1 h1).1).trans h1, h2.mono hle⟩
  · intro k k' o1 o2 p p' hg hg' hk hk' hpp
    by_cases e : k = H.next <;> by_cases e' : k' = H.next
    · rw [e, e']
    · exfalso
      subst e
      rw [Inj.ext_same] at hk; cases hk
      rw [AH.get_alloc_other _ _ e'] at hg'
      rw [Inj.ext_other _ _ e'] at hk'
      exact absurd (h.held_lt ⟨k', o2, p', hg', hk', hpp.symm⟩) (Nat.lt_irrefl _)
    · exfalso
      subst e'
      rw [Inj.ext_same] at hk'; cases hk'
      rw [AH.get_alloc_other _ _ e] at hg
      rw [Inj.ext_other _ _ e] at hk
      exact absurd (h.held_lt ⟨k, o1, p, hg, hk, hpp⟩) (Nat.lt_irrefl _)
    · rw [AH.get_alloc_other _ _ e] at hg
      rw [AH.get_alloc_other _ _ e'] at hg'
      rw [Inj.ext_other _ _ e] at hk
      rw [Inj.ext_other _ _ e'] at hk'
      exact h.inj k k' o1 o2 p p' hg hg' hk hk' hpp
  · intro k p h1 h2
    by_cases e : k = H.next
    · subst e
      rw [Inj.ext_same] at h2; cases h2
      exact ⟨Nat.le_refl _, .inl (Nat.le_refl _)⟩
    · rw [Inj.ext_other _ _ e, h1] at h2; cases h2
  · intro k hk _
    exact AH.get_alloc_other _ _ (Nat.ne_of_lt hk)
  · intro k hk hg
    rw [AH.get_alloc_other _ _ (Nat.ne_of_lt hk)]; exact hg
  · intro k hk hg
    unfold LoopAt
    rw [AH.get_alloc_other _ _ (Nat.ne_of_lt hk)]; exact hg

/-- A block is turned on both sides. -/
theorem Post.turn {ρ : Inj} {H : AH} {w w' : World} (h : MR ρ H w) {k : Nat} {p : Pl} {o o' : AObj} {O' : Obj} (hg : H.get k = some o) (hk : ρ k = some p)
    (hsize : w'.heap.size = w.heap.size) (hsame : w'.heap[p.b]? = some O') (hother : ∀ j, j ≠ p.b → w'.heap[j]? = w.heap[j]?) (ho : OR ρ p.d p.L o' O') (hl : o.isLoop = true → o'.isLoop = true := by intro h; first | exact h | cases h)
    (hout : ∀ c e, o = .cells c e → ∀ O, w.heap[p.b]? = some O → Outs p.d p.L O O' := by intro c e h; cases h) (hos : w'.os = w.os := by rfl) (hop : w'.output = w.output := by rfl) :
    Post ρ H w ρ (H.set k o') w' := by
  refine ⟨ρ.le_refl, ⟨fun j q hj => h.dom j q hj, ?_, ?_⟩, Nat.le_of_eq hsize.symm, ?_, ?_, ?_, Nat.le_refl _, ?_, ?_, ?_, hos, hop⟩
  · intro j oj q hgj hj
    by_cases e : k = j
    · subst e
      rw [AH.get_set_same] at hgj; cases hgj
      rw [hk] at hj; cases hj
      exact ⟨O', hsame, ho⟩
    · rw [AH.get_set_other _ _ e] at hgj
      obtain ⟨O, h1, h2⟩ := h.blk j oj q hgj hj
      refine ⟨O, ?_, h2⟩
      rw [hother q.b (fun eb => e (h.inj k j o oj p q hg hgj hk hj eb.symm))]
      exact h1
  · intro j j' oj oj' q q' hgj hgj' hj hj' hqq
    have f : ∀ {i oi}, (H.set k o').get i = some oi → ∃ oi', H.get i = some oi' := fun {i oi} hi => by
      by_cases e : k = i
      · subst e; exact ⟨o, hg⟩
      · rw [AH.get_set_other _ _ e] at hi; exact ⟨oi, hi⟩
    obtain ⟨x, hx⟩ := f hgj
    obtain ⟨y, hy⟩ := f hgj'
    exact h.inj j j' x y q q' hx hy hj hj' hqq
  · intro j _ hn
    exact hother j fun e => hn (e ▸ ⟨k, o, p, hg, hk, rfl⟩)
  · intro j q h1 h2
    rw [h1] at h2; cases h2
  · intro j _ hj
    exact AH.get_set_other _ _ (fun e => by subst e; rw [hk] at hj; cases hj)
  · intro j _ hj
    by_cases e : k = j
    · subst e; rw [hg] at hj; cases hj
    · rw [AH.get_set_other _ _ e]; exact hj
  · intro j _ hj
    by_cases e : k = j
    · subst e
      obtain ⟨x, hx, hx2⟩ := hj
      rw [hg] at hx; cases hx
      exact ⟨o', AH.get_set_same .., hl hx2⟩
    · unfold LoopAt
      rw [AH.get_set_other _ _ e]; exact hj
  · intro j oj q O hgj hj hO
    by_cases e : k = j
    · subst e
      rw [hg] at hgj; cases hgj
      rw [hk] at hj; cases hj
      refine ⟨O', hsame, ?_⟩
      obtain ⟨O2, h1, h2⟩ := h.blk k o p hg hk
      rw [hO] at h1; cases h1
      cases h2 with
      | cells => exact hout _ _ rfl _ hO
      | map => intro c e fz h; cases h
      | chan => intro c e fz h; cases h
      | loop => intro c e fz h; cases h
    · exact ⟨O, (hother q.b (fun eb => e (h.inj k j o oj p q hg hgj hk hj eb.symm))).trans hO, .refl _ _ _⟩

/-- A block is given up beside a new one. -/
theorem Post.kill {ρ ρ' : Inj} {H : AH} {w w' : World} (_ : MR ρ H w) {b : Nat} {o o' : AObj} {p : Pl} (hg : H.get b = some o) (hnl : o.isLoop = false) (hp : ρ b = some p) (h : Post ρ H w ρ' (H.alloc o') w') : Post ρ H w ρ' ((H.kill b).alloc o') w' := by
  have getk : ∀ {k x}, ((H.kill b).alloc o').get k = some x → (H.alloc o').get k = some x := by
    intro k x hk
    by_cases ek : k = H.next
    · subst ek
      have e1 := AH.get_alloc_same (H.kill b) o'
      rw [AH.next_kill] at e1
      rw [e1] at hk
      rw [AH.get_alloc_same]; exact hk
    · rw [AH.get_alloc_other _ _ (by simpa using ek)] at hk
      rw [AH.get_alloc_other _ _ ek]
      by_cases eb : b = k
      · subst eb; rw [AH.get_kill_same] at hk; cases hk
      · rw [AH.get_kill_other _ eb] at hk; exact hk
  refine ⟨h.le, ⟨h.mr.dom, fun k x p hk hp => h.mr.blk k x p (getk hk) hp, fun k k' x x' p p' hk hk' => h.mr.inj k k' x x' p p' (getk hk) (getk hk')⟩, h.size, h.frame, h.new, ?_, h.next, ?_, ?_, h.outs, h.os, h.output⟩
  · intro k hk hr
    rw [AH.get_alloc_other _ _ (by simp; omega)]
    by_cases eb : b = k
    · subst eb
      rw [hp] at hr; cases hr
    · exact AH.get_kill_other _ eb
  · intro k hk hr
    rw [AH.get_alloc_other _ _ (by simp; omega)]
    by_cases eb : b = k
    · subst eb; exact AH.get_kill_same _ _
    · rw [AH.get_kill_other _ eb]; exact hr
  · intro k hk hr
    obtain ⟨x, hx, hx2⟩ := hr
    refine ⟨x, ?_, hx2⟩
    rw [AH.get_alloc_other _ _ (by simp; omega)]
    by_cases eb : b = k
    · subst eb; rw [hg] at hx; cases hx; rw [hnl] at hx2; cases hx2
    · rw [AH.get_kill_other _ eb]; exact hx

/-! ### Cells -/
theorem MR.row_obj {ρ : Inj} {H : AH} {w : World} (h : MR ρ H w) {b : Nat} {p : Pl} {c : List Value} {e : TypeId} (hg : H.get b = some (.cells c e)) (hk : ρ b = some p) :
    ∃ (c' : Array Value) (fz : Nat × Nat), w.heap[p.b]? = some (.cells c' e fz) ∧ (∀ (i : Nat) (v : Value), c[i]? = some v → ∃ v', c'[p.d + i]? = some v' ∧ SR ρ v v') ∧
      (∀ i, p.d ≤ i → i < p.L → ¬ (fz.1 ≤ i ∧ i < fz.2)) ∧ (c.length ≠ 0 → p.d + c.length ≤ p.L) ∧ p.L ≤ c'.size := by
  obtain ⟨O, hO, hR⟩ := h.blk b _ p hg hk
  cases hR with
  | cells h1 h2 h3 h4 => exact ⟨_, _, hO, h1, h2, h3, h4⟩

theorem MR.cell {ρ : Inj} {H : AH} {w : World} (h : MR ρ H w) {b o : Nat} {p : Pl} {c : List Value} {e : TypeId} (hg : H.get b = some (.cells c e)) (hk : ρ b = some p)
    {v : Value} (hv : c[o]? = some v) : ∃ v', w.cell? ⟨p.b, p.d + o, none⟩ = some v' ∧ SR ρ v v' := by
  obtain ⟨c', fz, hO, h1, _, _, _⟩ := h.row_obj hg hk
  obtain ⟨v', hv', hs⟩ := h1 o v hv
  exact ⟨v', by simp [World.cell?, hO, hv'], hs⟩

theorem run_loadCellsFrom {P : Program} {ρ : Inj} {w : World} (a : Addr) : ∀ (l : List Value) (i : Nat) (acc : Array Value),
    (∀ j v, l[j]? = some v → ∃ v', w.cell? (a.add (i + j)) = some v' ∧ SR ρ v v') →
    ∃ arr : List Value, (loadCellsFrom a i l.length acc).run P w = .ok (acc ++ arr.toArray) w ∧ All2 (SR ρ) l arr
  | [], i, acc, _ => ⟨[], by simp [loadCellsFrom], .nil⟩
  | v :: l, i, acc, h => by
    obtain ⟨v', h1, h2⟩ := h 0 v rfl
    obtain ⟨arr, h3, h4⟩ := run_loadCellsFrom (P := P) (w := w) a l (i + 1) (acc.push v') (fun j x hx => by
      have := h (j + 1) x (by simpa using hx)
      rwa [show i + (j + 1) = i + 1 + j by omega] at this)
    refine ⟨v' :: arr, ?_, .cons h2 h4⟩
    have hl : (load (a.add i)).run P w = .ok v' w := by
      simp only [Nat.add_zero] at h1
      simp [load, Sem.run, h1]
    simp only [List.length_cons, loadCellsFrom, Sem.run_bind, hl, Result.andThen_ok, h3]
    congr 1
    simp

theorem run_loadCells {P : Program} {ρ : Inj} {w : World} (a : Addr) (l : List Value)
    (h : ∀ j v, l[j]? = some v → ∃ v', w.cell? (a.add j) = some v' ∧ SR ρ v v') :
    ∃ arr : List Value, (loadCells a l.length).run P w = .ok arr.toArray w ∧ All2 (SR ρ) l arr := by
  obtain ⟨arr, h1, h2⟩ := run_loadCellsFrom (P := P) (w := w) a l 0 #[] (fun j v hv => by simpa using h j v hv)
  exact ⟨arr, by simpa [loadCells] using h1, h2⟩

theorem Addr.add_mk (b o n : Nat) : (⟨b, o, none⟩ : Addr).add n = ⟨b, o + n, none⟩ := by
  unfold Addr.add
  split
  · rename_i e; subst e; rfl
  · rfl

/-- A row of cells, read. -/
theorem MR.row {P : Program} {ρ : Inj} {H : AH} {w : World} (h : MR ρ H w) {b o n : Nat} {p : Pl} {c : List Value} {e : TypeId} (hg : H.get b = some (.cells c e)) (hk : ρ b = some p)
    (hn : o + n ≤ c.length) : ∃ arr : List Value, (loadCells ⟨p.b, p.d + o, none⟩ n).run P w = .ok arr.toArray w ∧ All2 (SR ρ) ((c.drop o).take n) arr := by
  have hlen : ((c.drop o).take n).length = n := by simp; omega
  obtain ⟨arr, h1, h2⟩ := run_loadCells (P := P) (ρ := ρ) (w := w) ⟨p.b, p.d + o, none⟩ ((c.drop o).take n) (fun j v hv => by
    have hj : c[o + j]? = some v := by
      rw [List.getElem?_take] at hv
      split at hv
      · rw [List.getElem?_drop] at hv; exact hv
      · cases hv
    obtain ⟨v', h1, h2⟩ := h.cell hg hk hj
    rw [Addr.add_mk]
    exact ⟨v', by rw [Nat.add_assoc]; exact h1, h2⟩)
  rw [hlen] at h1
  exact ⟨arr, h1, h2⟩

theorem heap_setCell_same {w : World} {b o : Nat} {v : Value} {c : Array Value} {e : TypeId} {fz : Nat × Nat} (h : w.heap[b]? = some (.cells c e fz)) :
    (w.setCell ⟨b, o, none⟩ v).heap[b]? = some (.cells (c.setIfInBounds o v) e fz) := by
  obtain ⟨hlt, hk⟩ := Array.getElem?_eq_some_iff.1 h
  show (w.heap.modify b _)[b]? = _
  rw [Array.getElem?_eq_getElem (by rw [Array.size_modify]; exact hlt), Array.getElem_modify_self, hk]
  simp

theorem length_setMany : ∀ (vs c : List Value) (o : Nat), (setMany c o vs).length = c.length
  | [], _, _ => rfl
  | v :: vs, c, o => by simp [setMany, length_setMany vs]

/-- Cells of a row of the world are stored into, one behind the other. -/
theorem run_storeCells {P : Program} {b o : Nat} {e : TypeId} {fz : Nat × Nat} : ∀ (vs : List Value) (i : Nat) (c : Array Value) (w : World), w.heap[b]? = some (.cells c e fz) →
    o + i + vs.length ≤ c.size → (∀ j, o + i ≤ j → j < o + i + vs.length → ¬ (fz.1 ≤ j ∧ j < fz.2)) → vs.all one1 = true →
    ∃ w', (storeCells ⟨b, o, none⟩ vs i).run P w = .ok () w' ∧ w'.heap[b]? = some (.cells (setMany c.toList (o + i) vs).toArray e fz) ∧
      (∀ j, j ≠ b → w'.heap[j]? = w.heap[j]?) ∧ w'.heap.size = w.heap.size ∧ w'.os = w.os ∧ w'.output = w.output
  | [], i, c, w, h, _, _, _ => ⟨w, by simp [storeCells], by simpa [setMany] using h, fun _ _ => rfl, rfl, rfl, rfl⟩
  | v :: vs, i, c, w, h, hn, hf, h1 => by
    simp only [List.length_cons] at hn hf
    simp only [List.all_cons, Bool.and_eq_true] at h1
    have hcell : w.cell? ⟨b, o + i, none⟩ = some c[o + i] := by
      simp [World.cell?, h, Array.getElem?_eq_getElem (show o + i < c.size by omega)]
    have hfr : w.frozen? ⟨b, o + i, none⟩ = false := by
      have := hf (o + i) (Nat.le_refl _) (by omega)
      simp only [World.frozen?, h]
      rw [Bool.and_eq_false_iff]
      by_cases h4 : fz.1 ≤ o + i
      · right; simpa using fun h5 => this ⟨h4, h5⟩
      · left; simpa using h4
    have hst : (store ⟨b, o + i, none⟩ v).run P w = .ok () (w.setCell ⟨b, o + i, none⟩ v) := by
      have h1' := h1.1
      cases v <;> first | (exfalso; cases h1'; done) | (simp [store, Sem.run, hcell, hfr])
    have hb := heap_setCell_same (o := o + i) (v := v) h
    obtain ⟨w', h2, h3, h4, h5, h6, h7⟩ := run_storeCells (P := P) (o := o) vs (i + 1) (c.setIfInBounds (o + i) v) (w.setCell ⟨b, o + i, none⟩ v) hb (by simp; omega)
      (fun j hj hj' => hf j (by omega) (by omega)) h1.2
    refine ⟨w', ?_, ?_, ?_, ?_, h6.trans (by unfold World.setCell; split <;> rfl), h7.trans (by unfold World.setCell; split <;> rfl)⟩
    · simp only [storeCells, Sem.run_bind, Addr.add_mk, hst, Result.andThen_ok, h2]
    · simpa [setMany, Nat.add_assoc] using h3
    · intro j hj
      rw [h4 j hj, Below.heap_setCell w _ _ j hj]
    · rw [h5]; simp

theorem getElem?_setMany : ∀ (vs c : List Value) (o j : Nat), o + vs.length ≤ c.length → (setMany c o vs)[j]? = if o ≤ j ∧ j < o + vs.length then vs[j - o]? else c[j]?
  | [], c, o, j, _ => by
    rw [if_neg (by simp)]
    rfl
  | v :: vs, c, o, j, h => by
    simp only [List.length_cons] at h ⊢
    rw [setMany, getElem?_setMany vs (c.set o v) (o + 1) j (by rw [List.length_set]; omega)]
    by_cases h1 : o + 1 ≤ j ∧ j < o + 1 + vs.length
    · rw [if_pos h1, if_pos (by omega), show j - o = (j - (o + 1)) + 1 by omega, List.getElem?_cons_succ]
    · rw [if_neg h1]
      by_cases h2 : j = o
      · subst h2
        rw [if_pos (by omega), List.getElem?_set_self (by omega)]
        simp
      · rw [if_neg (by omega), List.getElem?_set_ne (Ne.symm h2)]

theorem all2_one {ρ : Inj} {l r : List Value} (h : All2 (SR ρ) l r) : l.all one1 = true ∧ r.all one1 = true := by
  induction h with
  | nil => exact ⟨rfl, rfl⟩
  | cons a _ ih => simp only [List.all_cons, Bool.and_eq_true]; exact ⟨⟨a.one1.1, ih.1⟩, a.one1.2, ih.2⟩

theorem outs_setMany {d L o : Nat} {c : Array Value} (e : TypeId) (fz : Nat × Nat) {vs : List Value} (hn : o + vs.length ≤ c.size) (hd : d ≤ o) (hL : o + vs.length ≤ L) : Outs d L (.cells c e fz) (.cells (setMany c.toList o vs).toArray e fz) := by
  rintro c1 e1 fz1 h
  cases h
  refine ⟨_, rfl, by simp [length_setMany], fun j hj => ?_⟩
  simp only [List.getElem?_toArray]
  rw [getElem?_setMany _ _ _ _ (by simpa using hn), if_neg (by omega)]
  simp

/-- Cells of an abstract row are stored into, one behind the other. -/
theorem MR.storeCells {P : Program} {ρ : Inj} {H : AH} {w : World} (h : MR ρ H w) {b o : Nat} {p : Pl} {c : List Value} {e : TypeId} {vs vs' : List Value} (hg : H.get b = some (.cells c e)) (hk : ρ b = some p)
    (hn : o + vs.length ≤ c.length) (hv : All2 (SR ρ) vs vs') :
    ∃ w', (Go.storeCells ⟨p.b, p.d + o, none⟩ vs' 0).run P w = .ok () w' ∧ Post ρ H w ρ (H.set b (.cells (setMany c o vs) e)) w' := by
  obtain ⟨c', fz, hO, h1, h2, h3, h4⟩ := h.row_obj hg hk
  have hl := hv.length
  have hL : vs ≠ [] → p.d + (o + vs.length) ≤ p.L := fun hne => by
    have hpos : 0 < vs.length := List.length_pos_iff.2 hne
    have := h3 (by omega)
    omega
  have hfit : vs ≠ [] → p.d + o + vs'.length ≤ c'.size := fun hne => by
    have hpos : 0 < vs.length := List.length_pos_iff.2 hne
    obtain ⟨v', hv', _⟩ := h1 (o + vs.length - 1) c[o + vs.length - 1] (List.getElem?_eq_getElem (by omega))
    have := (Array.getElem?_eq_some_iff.1 hv').1
    omega
  by_cases hne : vs = []
  · subst hne
    cases hv
    refine ⟨w, by simp [Go.storeCells], ?_⟩
    exact Post.turn h hg hk rfl hO (fun _ _ => rfl) (.cells h1 h2 (by simpa [setMany] using h3) h4) (hout := fun _ _ _ O h => by rw [hO] at h; cases h; exact .refl _ _ _)
  · have hfit := hfit hne
    have hL := hL hne
    obtain ⟨w', g1, g2, g3, g4, g5, g6⟩ := run_storeCells (P := P) (o := p.d + o) vs' 0 c' w hO (by omega) (fun j hj hj' => h2 j (by omega) (by omega)) (all2_one hv).2
    refine ⟨w', g1, Post.turn h hg hk g4 g2 g3 (.cells ?_ h2 (by simpa [length_setMany] using h3) (by simpa [length_setMany] using h4))
      (hout := fun _ _ _ O h => by rw [hO] at h; cases h; exact outs_setMany _ _ (by omega) (by omega) (by omega)) (hos := g5) (hop := g6)⟩
    intro i v hi
    rw [getElem?_setMany _ _ _ _ hn] at hi
    simp only [Nat.add_zero, List.getElem?_toArray]
    rw [getElem?_setMany _ _ _ _ (by simpa using hfit)]
    split at hi
    · rename_i hc
      rw [if_pos (by omega), show p.d + i - (p.d + o) = i - o by omega]
      obtain ⟨v', k1, k2⟩ := hv.get _ _ hi
      exact ⟨v', k1, k2⟩
    · rename_i hc
      rw [if_neg (by omega)]
      obtain ⟨v', k1, k2⟩ := h1 i v hi
      exact ⟨v', by simpa using k1, k2⟩

end Go.Ev
