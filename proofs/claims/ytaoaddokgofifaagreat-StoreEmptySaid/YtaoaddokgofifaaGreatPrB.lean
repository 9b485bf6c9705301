/- The functions that are answered by a contract of their own: a queue's Put and Take; the table of sums. -/
import Derived.Test.YtaoaddokgofifaaGreatPrA
import Derived.Test.YtaoaddokgofifaaGreatFvN
namespace Go.Pr
open Go Go.Proofs Go.Ev Go.Fv Go.RowKit

noncomputable def P0 : Program := Tryz.prog
noncomputable def tys0 : Bt TypeInfo := ofB 12 P0.types.toList
noncomputable def fns0 : Bt Func := ofB 12 P0.funcs.toList
noncomputable def T0 : TT := tabOf P0 tys0 fns0

theorem names_ok : (P0.funcs.toList.all fun x => !(x.name == "runtime.NumGoroutine")) = true := by kernel_rfl
theorem t0_ok : T0.Ok P0 := tabOf_ok names_ok
theorem mixed_ok : P0.follows .mixedOrders = true := by kernel_rfl
end Go.Pr
