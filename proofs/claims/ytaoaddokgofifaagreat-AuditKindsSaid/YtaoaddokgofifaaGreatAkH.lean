/- 'AuditKinds': whatever findings, kind and stop come in, the call returns true, and the findings read as they did. Conditions: none. -/
import Derived.Test.YtaoaddokgofifaaGreatAkF
import Derived.Test.YtaoaddokgofifaaGreatAkG
namespace Go.Proofs.YtaoaddokgofifaaGreat
open Go
theorem named4 : Tryz.pinned.checked.prog.funcNamed Rows.auditKindsRow.func = some 4 := by kernel_rfl
theorem inst4 : Tryz.f4.isInstance Tryz.pinned.checked.prog Rows.auditKindsRow.origin Rows.auditKindsRow.targs := of_decide_eq_true (by kernel_rfl)
theorem wrap4 : Tryz.f4.isWrapper Tryz.pinned.checked.prog Rows.auditKindsRow.wrapper Rows.auditKindsRow.mainSum := by
  unfold Func.isWrapper; rw [if_neg (of_decide_eq_false (by kernel_rfl))]; exact ⟨rfl, rfl⟩
/-- 'revetmentlaw26.AuditKinds': the row. -/
theorem auditKinds_holds : Rows.AuditKindsSaid :=
  OpenClaim.holds_of_wide 4 Tryz.f4 rfl rfl rfl rfl rfl rfl rfl ⟨rfl, rfl, rfl, rfl, rfl⟩ rfl rfl rfl rfl rfl named4 Tryz.func4 facts4 inst4 wrap4
    (fun os started H enc _ => kinds_lifted os started H enc)
#print axioms auditKinds_holds
end Go.Proofs.YtaoaddokgofifaaGreat
