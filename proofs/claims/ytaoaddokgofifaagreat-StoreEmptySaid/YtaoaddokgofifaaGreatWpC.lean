/- Equality of structs. -/
import Derived.Test.YtaoaddokgofifaaGreatWpB
namespace Go.Wp
open Go Go.Ev Go.Fv
section
variable {P : Program}
theorem forIn_same {β : Type} {b0 : β} {body : Field → β → Sem (ForInStep β)} : ∀ (l : List Field), (∀ f ∈ l, pureE P (body f b0) = some (.yield b0)) → pureE P (forIn l b0 body) = some b0
  | [], _ => by rw [List.forIn_nil]; rfl
  | f :: l, h => by
    rw [List.forIn_cons, pureE_bind, h f (List.mem_cons_self ..)]
    exact forIn_same l fun g hg => h g (List.mem_cons_of_mem _ hg)

/-- Structs whose parts are the same are the same. -/
theorem equal_fields (d : Nat) {xs ys : Array Value} {fs : Array Field} (hl : ∀ f ∈ fs.toList, f.name ≠ "_" ∧ ∃ u v, pureE P (part f.type xs f.offset) = some u ∧ pureE P (part f.type ys f.offset) = some v ∧ pureE P (Op.equalIn d f.type u v) = some true)
    {t : TypeId} (hu : pureE P (underlying t) = some (.struct fs)) (hs : P.stoodInHeld t = false) : pureE P (Op.equalIn (d + 1) t (.agg xs) (.agg ys)) = some true := by
  rw [Op.equalIn.eq_def]
  dsimp only
  rw [pureE_bind, hu]
  dsimp only [Option.bind_some]
  rw [pureE_bind]
  have hp : pureE P program = some P := rfl
  rw [hp]
  dsimp only [Option.bind_some]
  rw [hs, if_neg (by decide), pureE_bind, ← Array.forIn_toList]
  have key := forIn_same (P := P) (b0 := ((none : Option Bool), ())) (body := fun f __s =>
                if f.name ≠ "_" then do
                  let __do_lift ← part f.type xs f.offset
                  let __do_lift_1 ← part f.type ys f.offset
                  let __do_lift ← Op.equalIn d f.type __do_lift __do_lift_1
                  if (!__do_lift) = true then pure (ForInStep.done (some false, ()))
                    else pure (ForInStep.yield (none, ()))
                else pure (ForInStep.yield (none, ()))) fs.toList (fun f hf => by
    obtain ⟨h1, u, v, h2, h3, h4⟩ := hl f hf
    rw [if_pos h1, pureE_bind, h2]
    dsimp only [Option.bind_some]
    rw [pureE_bind, h3]
    dsimp only [Option.bind_some]
    rw [pureE_bind, h4]
    rfl)
  rw [key]
  rfl
end
end Go.Wp
