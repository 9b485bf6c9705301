/- Facts of the row of StoreEmpty. -/
import Derived.Test.YtaoaddokgofifaaGreatRows
import Derived.ProofKit
namespace Go.Proofs.YtaoaddokgofifaaGreat
open Go
theorem facts3 : joinedFacts Tryz.pinned.checked.prog 3 Tryz.f3 Rows.storeEmptySpec Rows.storeEmptyRow = true := by kernel_rfl
end Go.Proofs.YtaoaddokgofifaaGreat
