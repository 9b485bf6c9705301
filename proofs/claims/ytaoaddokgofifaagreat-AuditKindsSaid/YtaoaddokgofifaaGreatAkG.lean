/- Facts of the row of AuditKinds. -/
import Derived.Test.YtaoaddokgofifaaGreatRows
import Derived.ProofKit
namespace Go.Proofs.YtaoaddokgofifaaGreat
open Go
theorem facts4 : joinedFacts Tryz.pinned.checked.prog 4 Tryz.f4 Rows.auditKindsSpec Rows.auditKindsRow = true := by kernel_rfl
end Go.Proofs.YtaoaddokgofifaaGreat
