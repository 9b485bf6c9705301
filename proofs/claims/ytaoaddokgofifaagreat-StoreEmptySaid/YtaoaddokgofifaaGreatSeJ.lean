/- 'StoreEmpty': whatever geometry and operations come in, the call returns true, and they read as they did. Conditions: none. -/
import Derived.Test.YtaoaddokgofifaaGreatSeH
import Derived.Test.YtaoaddokgofifaaGreatSeI
namespace Go.Proofs.YtaoaddokgofifaaGreat
open Go
theorem named3 : Tryz.pinned.checked.prog.funcNamed Rows.storeEmptyRow.func = some 3 := by kernel_rfl
theorem inst3 : Tryz.f3.isInstance Tryz.pinned.checked.prog Rows.storeEmptyRow.origin Rows.storeEmptyRow.targs := of_decide_eq_true (by kernel_rfl)
theorem wrap3 : Tryz.f3.isWrapper Tryz.pinned.checked.prog Rows.storeEmptyRow.wrapper Rows.storeEmptyRow.mainSum := by
  unfold Func.isWrapper; rw [if_neg (of_decide_eq_false (by kernel_rfl))]; exact ⟨rfl, rfl⟩
/-- 'revetmentlaw21.StoreEmpty': the row. -/
theorem storeEmpty_holds : Rows.StoreEmptySaid :=
  OpenClaim.holds_of_wide 3 Tryz.f3 rfl rfl rfl rfl rfl rfl rfl ⟨rfl, rfl, rfl, rfl, rfl⟩ rfl rfl rfl rfl rfl named3 Tryz.func3 facts3 inst3 wrap3
    (fun os started H enc _ => empty_lifted os started H enc)
#print axioms storeEmpty_holds
end Go.Proofs.YtaoaddokgofifaaGreat
