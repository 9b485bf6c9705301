/- From a program's own tables to its calls: what the swifter evaluator answers on empty memory, every call of the model answers in every world. -/
import Derived.Test.YtaoaddokgofifaaGreatFvM
import Derived.Test.YtaoaddokgofifaaGreatFvT
namespace Go.Fv
open Go.Ev

section
variable {P : Program}

/-- A program's tables, for looking up quickly; functions without a body left out. -/
noncomputable def tabOf (_ : Program) (tys : Bt TypeInfo) (fns : Bt Func) : TT :=
  ⟨undB tys, infB tys, fun f => match getB fns f with | some x => (match x.body with | some _ => some x | none => none) | none => none⟩

theorem fn_of {P : Program} {tys : Bt TypeInfo} {n f : Nat} {x : Func} (h : (tabOf P tys (ofB n P.funcs.toList)).fn f = some x) : P.funcs.toList[f]? = some x ∧ x.body.isNone = false := by
  simp only [tabOf] at h
  split at h
  · rename_i y hy
    split at h
    · rename_i c hc
      cases h
      exact ⟨getB_ofB _ _ _ _ hy, by rw [hc]; rfl⟩
    · cases h
  · cases h

theorem tabOf_ok {n k : Nat} (hp : (P.funcs.toList.all fun x => !(x.name == "runtime.NumGoroutine")) = true) : (tabOf P (ofB n P.types.toList) (ofB k P.funcs.toList)).Ok P := by
  have hi : ∀ t v, getB (ofB n P.types.toList) t = some v → P.info? t = some v := fun t v h => by
    have h1 := getB_ofB _ _ _ _ h
    rw [Array.getElem?_toList] at h1
    have h2 : t < P.types.size := (Array.getElem?_eq_some_iff.1 h1).1
    show (if t < P.types.size then P.types[t]? else _) = some v
    rw [if_pos h2, h1]
  refine ⟨fun t d h => undB_ok hi t d h, fun t i h => hi t i h, fun f x h => ?_, fun f x h => ?_, fun f x h => (fn_of h).2⟩
  · have := (fn_of h).1
    rw [Array.getElem?_toList] at this
    exact this
  · have h1 := (fn_of h).1
    have := List.all_eq_true.1 hp x (List.mem_of_getElem? h1)
    simpa using this

theorem codes_of {n k : Nat} (hc : (P.funcs.toList.all fun x => match x.body with | some c => codeOK c | none => true) = true) : CodesOk (tabOf P (ofB n P.types.toList) (ofB k P.funcs.toList)) := by
  intro f fn c h hb
  have h1 := (fn_of h).1
  have := List.all_eq_true.1 hc fn (List.mem_of_getElem? h1)
  rw [hb] at this
  exact this

/-- What leaves all that was there as it was. -/
theorem post_of_frame {ρ : Inj} {H : AH} {w w' : World} (hm : MR ρ H w) (hs : w.heap.size ≤ w'.heap.size) (hf : ∀ b, b < w.heap.size → w'.heap[b]? = w.heap[b]?) (hos : w'.os = w.os) (hop : w'.output = w.output) : Post ρ H w ρ H w' := by
  refine ⟨ρ.le_refl, ⟨hm.dom, fun k o p hg hp => ?_, hm.inj⟩, hs, fun b hb _ => hf b hb, fun k p h1 h2 => (by rw [h1] at h2; cases h2), fun _ _ _ => rfl, Nat.le_refl _, fun _ _ h => h, fun _ _ h => h, fun k o p O _ _ hO => ⟨O, (hf p.b (Array.getElem?_eq_some_iff.1 hO).1).trans hO, .refl _ _ _⟩, hos, hop⟩
  obtain ⟨O, h1, h2⟩ := hm.blk k o p hg hp
  exact ⟨O, by rw [hf p.b (Array.getElem?_eq_some_iff.1 h1).1]; exact h1, h2⟩

/-- Memory of which nothing is known. -/
def E0 : AH := ⟨.leaf, 0⟩
theorem E0_get (k : Nat) : E0.get k = none := Tr.get_leaf k
theorem mr_empty (w : World) : MR (fun _ => none) E0 w := by
  refine ⟨fun k p h => (by cases h), fun k o p h => ?_, fun k k' o o' p p' h => ?_⟩
  · rw [E0_get] at h; cases h
  · rw [E0_get] at h; cases h

/-- A call without arguments, on memory of which nothing is known: what it answers, it answers in every world; what was there is as it was. -/
theorem closed_call {T : TT} {X : Prims} (hT : T.Ok P) (hX : PrimsOk P X) (hXh : PrimsHere T X) (hC : CodesOk T) (hmix : P.follows .mixedOrders = true) {n : Nat} {f : FuncId} {v : Value} (hv : flatV v = true)
    (h : rcAt P T X n (.fn f) [] E0 (fun v _ => some (v, E0)) = some (v, E0)) (w : World) (m : Nat) :
    CallsIn Fence.wide m P f #[] w fun e w' => e = .returned v ∧ w.heap.size ≤ w'.heap.size ∧ (∀ b, b < w.heap.size → w'.heap[b]? = w.heap[b]?) ∧ w'.os = w.os ∧ w'.output = w.output := by
  obtain ⟨N, v1, H1, h1, h2⟩ := rcAt_ok n _ _ _ _ _ h
  cases h2
  refine CallsIn.mono (evCall_sim hT hX hXh hC hmix (mr_empty w) (args := []) (cargs := #[]) .nil h1) ?_
  rintro e w' ⟨cv, ρ', rfl, htv, hp⟩
  refine ⟨by rw [← htv.flat hv], hp.size, fun b hb => hp.frame b hb ?_, hp.os, hp.output⟩
  rintro ⟨k, o, p, h2, h3, _⟩
  cases h3
end
end Go.Fv
