/- The code of all functions is in order. -/
import Derived.Test.YtaoaddokgofifaaGreatPrB
namespace Go.Pr
open Go Go.Proofs Go.Ev Go.Fv Go.RowKit
theorem codes_ok : (P0.funcs.toList.all fun x => match x.body with | some c => codeOK c | none => true) = true := by kernel_rfl
theorem c0_ok : CodesOk T0 := codes_of codes_ok
end Go.Pr
