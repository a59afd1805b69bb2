/- PoolCatches: for all lists of ops l, vectors v and sizes most the law returns true, and each argument reads behind the call as before; no condition. -/
import Derived.Test.YtpgfcfojojemjaaT39
namespace Go.Proofs.Ytpgfcfojojemjaa.poolCatches
open Go.ChangeShapes Go.WideShapes Go.ChangeAt Go.RowKit Go.PV
theorem over : Rows.poolCatchesRow.holds Try.pinned (OpenSpec.ofChange Rows.poolCatchesSpec) :=
  OpenClaim.holds_of_wide 8 Try.f8 rfl rfl rfl rfl rfl rfl rfl ⟨rfl,rfl,rfl,rfl,rfl⟩ rfl rfl rfl rfl rfl (by kernel_rfl) Try.func8 (by kernel_rfl)
    (of_decide_eq_true (by kernel_rfl)) (by unfold Func.isWrapper; first | (rw [if_pos (by decide +kernel)]; kernel_rfl) | (rw [if_neg (by decide +kernel)]; exact ⟨rfl,rfl⟩))
    (fun os started H enc _ => lifted os started H enc)
theorem proved : Rows.PoolCatchesSaid := over
#print axioms proved
end Go.Proofs.Ytpgfcfojojemjaa.poolCatches
namespace Go.Proofs.Ytpgfcfojojemjaa
/-- The row, under a short name, for the claim. -/
theorem poolCatches_holds : Rows.PoolCatchesSaid := poolCatches.proved
end Go.Proofs.Ytpgfcfojojemjaa
