/- PoolFull: for all from, more the law returns true, and each argument reads behind the call as before; no condition. -/
import Derived.Test.YtpgfcfojojemjaaT37
namespace Go.Proofs.Ytpgfcfojojemjaa.poolFull
open Go.ChangeShapes Go.WideShapes Go.ChangeAt Go.RowKit Go.PV
theorem over : Rows.poolFullRow.holds Try.pinned (OpenSpec.ofChange Rows.poolFullSpec) :=
  OpenClaim.holds_of_wide 6 Try.f6 rfl rfl rfl rfl rfl rfl rfl ⟨rfl, rfl, rfl, rfl, rfl⟩ rfl rfl rfl rfl rfl (by kernel_rfl) Try.func6 (by kernel_rfl)
    (of_decide_eq_true (by kernel_rfl)) (by unfold Func.isWrapper; first | (rw [if_pos (by decide +kernel)]; kernel_rfl) | (rw [if_neg (by decide +kernel)]; exact ⟨rfl, rfl⟩))
    (fun os started H enc _ => lifted os started H enc)
theorem proved : Rows.PoolFullSaid := over
#print axioms proved
end Go.Proofs.Ytpgfcfojojemjaa.poolFull
namespace Go.Proofs.Ytpgfcfojojemjaa
/-- The row, under a short name, for the claim. -/
theorem poolFull_holds : Rows.PoolFullSaid := poolFull.proved
end Go.Proofs.Ytpgfcfojojemjaa
