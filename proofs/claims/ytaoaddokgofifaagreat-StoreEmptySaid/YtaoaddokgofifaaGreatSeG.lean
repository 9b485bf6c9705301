/- The functions that are answered by a contract of their own answer so: the anchor of layer 21 too. -/
import Derived.Test.YtaoaddokgofifaaGreatSeM
import Derived.Test.YtaoaddokgofifaaGreatAnB
namespace Go.Se
open Go Go.Proofs Go.Ev Go.Fv Go.Wp Go.Pr Go.Vc

theorem yes_ok {ρ : Inj} {H : AH} {w : World} {args : List Value} {v : Value} {H' : AH} (h : yesPrim args H = some (v, H')) {cargs : Array Value} (m : Nat) (hm : MR ρ H w) (ha : All2 (TV ρ) args cargs.toList) : CallsIn Fence.wide m P0 5 cargs w (CallOut ρ H w v H') := by
  unfold yesPrim at h
  split at h
  · cases h
    obtain ⟨l⟩ := cargs
    cases ha
    refine CallsIn.mono (Go.A21.anchor21 w m) ?_
    rintro e w' ⟨rfl, h1, h2, h3, h4⟩
    exact ⟨_, ρ, rfl, .bool _, post_of_frame hm h1 h2 h3 h4⟩
  · cases h
theorem xs_ok : PrimsOk P0 XS := by
  intro f p h args H v H' hp ρ w cargs m hm ha
  unfold XS at h
  split at h
  · rename_i e; cases h; subst e; exact yes_ok hp m hm ha
  · exact x0_ok f p h args H v H' hp ρ w cargs m hm ha
theorem xs_here : PrimsHere T0 XS := by
  intro f p h
  unfold XS at h
  split at h
  · rename_i e; subst e; exact ⟨Tryz.f5, by kernel_rfl⟩
  · exact x0_here f p h
end Go.Se
