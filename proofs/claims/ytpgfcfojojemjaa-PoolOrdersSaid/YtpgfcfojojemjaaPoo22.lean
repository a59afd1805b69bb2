/- PoolOrders: for all lists of ops a, b and all patterns of turns the law returns true, and each argument reads behind the call as before; no condition. -/
import Derived.Test.YtpgfcfojojemjaaT37
namespace Go.Proofs.Ytpgfcfojojemjaa.poolOrders
open Go.ChangeShapes Go.WideShapes Go.ChangeAt Go.RowKit Go.PV
theorem over : Rows.poolOrdersRow.holds Try.pinned (OpenSpec.ofChange Rows.poolOrdersSpec) :=
  OpenClaim.holds_of_wide 7 Try.f7 rfl rfl rfl rfl rfl rfl rfl ⟨rfl, rfl, rfl, rfl, rfl⟩ rfl rfl rfl rfl rfl (by kernel_rfl) Try.func7 (by kernel_rfl)
    (of_decide_eq_true (by kernel_rfl)) (by unfold Func.isWrapper; first | (rw [if_pos (by decide +kernel)]; kernel_rfl) | (rw [if_neg (by decide +kernel)]; exact ⟨rfl, rfl⟩))
    (fun os started H enc _ => lifted os started H enc)
theorem proved : Rows.PoolOrdersSaid := over
#print axioms proved
end Go.Proofs.Ytpgfcfojojemjaa.poolOrders
namespace Go.Proofs.Ytpgfcfojojemjaa
/-- The row, under a short name, for the claim. -/
theorem poolOrders_holds : Rows.PoolOrdersSaid := poolOrders.proved
end Go.Proofs.Ytpgfcfojojemjaa
