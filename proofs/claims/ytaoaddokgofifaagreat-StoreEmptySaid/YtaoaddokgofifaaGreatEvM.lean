/- Small laws for a region that draws its order: what values name, blocks that are laid early or late. -/
import Derived.Test.YtaoaddokgofifaaGreatEvL
import Derived.OrdersIn
namespace Go.Ev
open Go.RowKit

/-! ### what values name -/
/-- The blocks below n alone. -/
def Inj.cut (ρ : Inj) (n : Nat) : Inj := fun k => if k < n then ρ k else none
theorem Inj.cut_some {ρ : Inj} {n k : Nat} {p : Pl} : ρ.cut n k = some p ↔ k < n ∧ ρ k = some p := by
  unfold Inj.cut
  split
  · rename_i h; exact ⟨fun e => ⟨h, e⟩, fun e => e.2⟩
  · rename_i h; exact ⟨fun e => (by cases e), fun e => absurd e.1 h⟩
theorem Inj.cut_le (ρ : Inj) (n : Nat) : (ρ.cut n).le ρ := fun _ _ h => (Inj.cut_some.1 h).2
theorem Inj.cut_mono {ρ ρ' : Inj} (h : ρ.le ρ') (n : Nat) : (ρ.cut n).le (ρ'.cut n) := fun k p hk =>
  let ⟨h1, h2⟩ := Inj.cut_some.1 hk
  Inj.cut_some.2 ⟨h1, h k p h2⟩
theorem blt_lt {a b : Nat} (h : Nat.blt a b = true) : a < b := by simpa [Nat.blt_eq] using h

section
variable {ρ : Inj} {n : Nat}
theorem BR.cut {v v' : Value} (k : BR ρ v v') (h : below0 n v = true) : BR (ρ.cut n) v v' := by
  cases k with
  | bool b => exact .bool b
  | int k n => exact .int k n
  | string s => exact .string s
  | nilPtr => exact .nilPtr
  | ptr e => exact .ptr (Inj.cut_some.2 ⟨blt_lt h, e⟩)
  | nilSlice => exact .nilSlice
  | slice e c => exact .slice (Inj.cut_some.2 ⟨blt_lt h, e⟩) c
  | slice0 e c k l => exact .slice0 (Inj.cut_some.2 ⟨blt_lt h, e⟩) c k l
  | nilMap => exact .nilMap
  | map e => exact .map (Inj.cut_some.2 ⟨blt_lt h, e⟩)
  | nilChan => exact .nilChan
  | chan e => exact .chan (Inj.cut_some.2 ⟨blt_lt h, e⟩)
  | nilFunc => exact .nilFunc
  | nilIface => exact .nilIface
theorem All2.cutL {R S : Value → Value → Prop} {f : Value → Bool} (hk : ∀ a b, R a b → f a = true → S a b) {l r : List Value} (h : All2 R l r) (hf : l.all f = true) : All2 S l r := by
  induction h with
  | nil => exact .nil
  | cons a _ ih =>
    simp only [List.all_cons, Bool.and_eq_true] at hf
    exact .cons (hk _ _ a hf.1) (ih hf.2)
theorem SR.cut {v v' : Value} (k : SR ρ v v') (h : below1 n v = true) : SR (ρ.cut n) v v' := by
  cases k with
  | base k =>
    refine .base (k.cut ?_)
    cases k <;> exact h
  | func k => exact .func (k.cutL (fun _ _ a b => a.cut b) h)
  | yield e => exact .yield (Inj.cut_some.2 ⟨blt_lt h, e⟩)
theorem VR.cut {v v' : Value} (k : VR ρ v v') (h : belowA n v = true) : VR (ρ.cut n) v v' := by
  cases k with
  | one k =>
    refine .one (k.cut ?_)
    cases k with
    | base k => cases k <;> exact h
    | func _ => exact h
    | yield _ => exact h
  | agg k => exact .agg (k.cutL (fun _ _ a b => a.cut b) h)
theorem TV.cut {v v' : Value} (k : TV ρ v v') (h : belowV n v = true) : TV (ρ.cut n) v v' := by
  cases k with
  | val k =>
    refine .val (k.cut ?_)
    cases k with
    | one k => cases k with
      | base k => cases k <;> exact h
      | func _ => exact h
      | yield _ => exact h
    | agg _ => exact h
  | tuple k => exact .tuple (k.cutL (fun _ _ a b => a.cut b) h)
end

/-! ### equality, as far as it is asked -/
theorem eq1_eq {a b : Value} (h : eq1 a b = true) : a = b := by
  unfold eq1 at h
  split at h <;> simp only [Bool.and_eq_true, beq_iff_eq, decide_eq_true_eq, Bool.false_eq_true] at h
  · rw [h]
  · rw [h.1, h.2]
  · rename_i a b
    have : a = b := by
      cases a; cases b
      simp only at h
      rw [Array.toList_inj] at h
      rw [h]
    rw [this]
  · rw [h]
  · rw [h.1.1, h.1.2, h.2]
  · rw [h]
  · rw [h]
  · rfl
  · rfl
theorem eqL_eq : ∀ {l r : List Value}, eqL l r = true → l = r
  | [], [], _ => rfl
  | [], _ :: _, h => by cases h
  | _ :: _, [], h => by cases h
  | a :: l, b :: r, h => by
    simp only [eqL, Bool.and_eq_true] at h
    rw [eq1_eq h.1, eqL_eq h.2]
theorem zip_all_eq {f : Value × Value → Bool} (hf : ∀ a b, f (a, b) = true → a = b) : ∀ {l r : List Value}, l.length = r.length → (l.zip r).all f = true → l = r
  | [], [], _, _ => rfl
  | [], _ :: _, h, _ => by simp at h
  | _ :: _, [], h, _ => by simp at h
  | a :: l, b :: r, h, h' => by
    simp only [List.zip_cons_cons, List.all_cons, Bool.and_eq_true] at h'
    rw [hf a b h'.1, zip_all_eq hf (by simpa using h) h'.2]
theorem eqV_eq {a b : Value} (h : eqV a b = true) : a = b := by
  unfold eqV at h
  split at h
  · rw [Array.toList_inj.1 (eqL_eq h)]
  · simp only [Bool.and_eq_true, beq_iff_eq] at h
    refine congrArg _ (Array.toList_inj.1 (zip_all_eq ?_ h.1 h.2))
    intro a b hab
    split at hab
    · rename_i x y e
      cases e
      rw [Array.toList_inj.1 (eqL_eq hab)]
    · rename_i x y _ e
      cases e
      exact eq1_eq hab
  · exact eq1_eq h

/-! ### blocks that are laid early or late -/
section
variable {ρs ρ₀ : Inj} {Hs H : AH} {ws w : World}

theorem Post.none_next (h : Post ρs Hs ws ρ₀ H w) : ρ₀ H.next = none := by
  cases hr : ρ₀ H.next with
  | none => rfl
  | some p => exact absurd (h.mr.dom _ _ hr) (Nat.lt_irrefl _)

/-- A block is laid in the world alone. -/
theorem Post.push (h : Post ρs Hs ws ρ₀ H w) (O : Obj) : Post ρs Hs ws ρ₀ H (w.alloc O) := by
  have hheap : ∀ b, b < w.heap.size → (w.alloc O).heap[b]? = w.heap[b]? := fun b hb => by
    show (w.heap.push O)[b]? = _
    rw [Array.getElem?_push]; simp [Nat.ne_of_lt hb]
  refine ⟨h.le, ⟨h.mr.dom, fun k o p hg hk => ?_, h.mr.inj⟩, Nat.le_trans h.size (by simp), fun b hb hn => ?_, h.new, h.keep, h.next, h.dead, h.loops, fun k o p O hg hk hO => ?_, h.os, h.output⟩
  · obtain ⟨O', h1, h2⟩ := h.mr.blk k o p hg hk
    exact ⟨O', (hheap p.b (Array.getElem?_eq_some_iff.1 h1).1).trans h1, h2⟩
  · rw [hheap b (Nat.lt_of_lt_of_le hb h.size)]
    exact h.frame b hb hn
  · obtain ⟨O', h1, h2⟩ := h.outs k o p O hg hk hO
    exact ⟨O', (hheap p.b (Array.getElem?_eq_some_iff.1 h1).1).trans h1, h2⟩

/-- A block is laid in the abstract heap alone. -/
theorem Post.lay (h : Post ρs Hs ws ρ₀ H w) (obj : AObj) : Post ρs Hs ws ρ₀ (H.alloc obj) w := by
  have hn := h.none_next
  have ne : ∀ {k p}, ρ₀ k = some p → k ≠ H.next := fun hk e => by rw [e, hn] at hk; cases hk
  refine ⟨h.le, ⟨fun k p hk => Nat.lt_succ_of_lt (h.mr.dom k p hk), fun k o p hg hk => ?_, fun k k' o o' p p' hg hg' hk hk' => ?_⟩, h.size, h.frame, h.new, fun k hk hr => ?_, Nat.le_trans h.next (by simp), fun k hk hr => ?_, fun k hk hr => ?_, h.outs, h.os, h.output⟩
  · rw [AH.get_alloc_other _ _ (ne hk)] at hg
    exact h.mr.blk k o p hg hk
  · rw [AH.get_alloc_other _ _ (ne hk)] at hg
    rw [AH.get_alloc_other _ _ (ne hk')] at hg'
    exact h.mr.inj k k' o o' p p' hg hg' hk hk'
  · rw [AH.get_alloc_other _ _ (Nat.ne_of_lt (Nat.lt_of_lt_of_le hk h.next))]
    exact h.keep k hk hr
  · rw [AH.get_alloc_other _ _ (Nat.ne_of_lt (Nat.lt_of_lt_of_le hk h.next))]
    exact h.dead k hk hr
  · unfold LoopAt
    rw [AH.get_alloc_other _ _ (Nat.ne_of_lt (Nat.lt_of_lt_of_le hk h.next))]
    exact h.loops k hk hr

/-- An abstract block that has no place so far gets one. -/
theorem Post.place (h : Post ρs Hs ws ρ₀ H w) {k₀ : Nat} {p₀ : Pl} {O : Obj} (hn : ρ₀ k₀ = none) (hlt : k₀ < H.next) (hge : Hs.next ≤ k₀) (hO : w.heap[p₀.b]? = some O)
    (hor : ∀ o, H.get k₀ = some o → OR (ρ₀.ext k₀ p₀) p₀.d p₀.L o O) (hnh : ¬ Held ρ₀ H p₀.b) (hb : ws.heap.size ≤ p₀.b) : Post ρs Hs ws (ρ₀.ext k₀ p₀) H w := by
  have hle := Inj.le_ext (p := p₀) hn
  refine ⟨Inj.le_trans h.le hle, ⟨fun k p hk => ?_, fun k o p hg hk => ?_, fun k k' o o' p p' hg hg' hk hk' hpp => ?_⟩, h.size, h.frame, fun k p hk hk' => ?_, h.keep, h.next, h.dead, h.loops, h.outs, h.os, h.output⟩
  · by_cases e : k = k₀
    · subst e; exact hlt
    · rw [Inj.ext_other _ _ e] at hk; exact h.mr.dom k p hk
  · by_cases e : k = k₀
    · subst e
      rw [Inj.ext_same] at hk; cases hk
      exact ⟨O, hO, hor o hg⟩
    · rw [Inj.ext_other _ _ e] at hk
      obtain ⟨O', h1, h2⟩ := h.mr.blk k o p hg hk
      exact ⟨O', h1, h2.mono hle⟩
  · by_cases e : k = k₀ <;> by_cases e' : k' = k₀
    · rw [e, e']
    · exfalso
      subst e
      rw [Inj.ext_same] at hk; cases hk
      rw [Inj.ext_other _ _ e'] at hk'
      exact hnh ⟨k', o', p', hg', hk', hpp.symm⟩
    · exfalso
      subst e'
      rw [Inj.ext_same] at hk'; cases hk'
      rw [Inj.ext_other _ _ e] at hk
      exact hnh ⟨k, o, p, hg, hk, hpp⟩
    · rw [Inj.ext_other _ _ e] at hk
      rw [Inj.ext_other _ _ e'] at hk'
      exact h.mr.inj k k' o o' p p' hg hg' hk hk' hpp
  · by_cases e : k = k₀
    · subst e
      rw [Inj.ext_same] at hk'; cases hk'
      exact ⟨hge, .inl hb⟩
    · rw [Inj.ext_other _ _ e] at hk'
      exact h.new k p hk hk'

theorem held_ext {k₀ b : Nat} {p₀ : Pl} (h : Held (ρ₀.ext k₀ p₀) H b) : b = p₀.b ∨ Held ρ₀ H b := by
  obtain ⟨k, o, p, h1, h2, rfl⟩ := h
  by_cases e : k = k₀
  · subst e
    rw [Inj.ext_same] at h2; cases h2
    exact .inl rfl
  · rw [Inj.ext_other _ _ e] at h2
    exact .inr ⟨k, o, p, h1, h2, rfl⟩

theorem held_alloc {obj : AObj} {b : Nat} (hn : ρ₀ H.next = none) (h : Held ρ₀ (H.alloc obj) b) : Held ρ₀ H b := by
  obtain ⟨k, o, p, h1, h2, rfl⟩ := h
  rw [AH.get_alloc_other _ _ (fun e => by rw [e, hn] at h2; cases h2)] at h1
  exact ⟨k, o, p, h1, h2, rfl⟩
end

/-! ### operations -/
section
variable {P : Program} {T : TT} {X : Prims} {R : Runner}

theorem lays_alloc {env : Operand → Value} {o : Op} {H H' : AH} {v : Value} (hs : laysOp o = true) (h : evOp P T env o H = some (v, H')) : ∃ obj, H' = H.alloc obj := by
  cases o <;> simp only [laysOp, Bool.false_eq_true] at hs <;> simp only [evOp] at h
  case makeMap t r =>
    cases r <;> simp only at h
    · cases h; exact ⟨_, rfl⟩
    · cases h
  all_goals
    repeat' split at h
    all_goals first | (cases h; done) | (cases h; exact ⟨_, rfl⟩)

theorem still_oper {env : Operand → Value} {o : Op} {H : AH} (hs : stillOp o = true) : evOperW P T X R env o H = evOp P T env o H := by
  unfold evOperW
  split
  · simp [stillOp] at hs
  · rfl
theorem lays_oper {env : Operand → Value} {o : Op} {H : AH} (hs : laysOp o = true) : evOperW P T X R env o H = evOp P T env o H := by
  unfold evOperW
  split
  · simp [laysOp] at hs
  · rfl

theorem kinds (o : Op) : (stillOp o = true ∧ loudOp o = false ∧ laysOp o = false) ∨ (laysOp o = true ∧ loudOp o = false ∧ stillOp o = false) ∨ (loudOp o = true ∧ stillOp o = false ∧ laysOp o = false) := by
  unfold loudOp
  cases h1 : stillOp o <;> cases h2 : laysOp o <;> simp
  cases o <;> simp [stillOp, laysOp] at h1 h2
end

/-- A heap with nothing in it. -/
def AH.bare (n : Nat) : AH := { tr := .leaf, next := n }

end Go.Ev
