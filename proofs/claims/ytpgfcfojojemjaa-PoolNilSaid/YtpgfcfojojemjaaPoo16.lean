/- PoolNil: for all ops o and vectors v the law returns true, and each argument reads behind the call as before; no condition. -/
import Derived.Test.YtpgfcfojojemjaaT37
namespace Go.Proofs.Ytpgfcfojojemjaa.poolNil
open Go.ChangeShapes Go.WideShapes Go.ChangeAt Go.RowKit Go.PV
theorem over : Rows.poolNilRow.holds Try.pinned (OpenSpec.ofChange Rows.poolNilSpec) :=
  OpenClaim.holds_of_wide 10 Try.f10 rfl rfl rfl rfl rfl rfl rfl ⟨rfl, rfl, rfl, rfl, rfl⟩ rfl rfl rfl rfl rfl (by kernel_rfl) Try.func10 (by kernel_rfl)
    (of_decide_eq_true (by kernel_rfl)) (by unfold Func.isWrapper; first | (rw [if_pos (by decide +kernel)]; kernel_rfl) | (rw [if_neg (by decide +kernel)]; exact ⟨rfl, rfl⟩))
    (fun os started H enc _ => lifted os started H enc)
theorem proved : Rows.PoolNilSaid := over
#print axioms proved
end Go.Proofs.Ytpgfcfojojemjaa.poolNil
namespace Go.Proofs.Ytpgfcfojojemjaa
/-- The row, under a short name, for the claim. -/
theorem poolNil_holds : Rows.PoolNilSaid := poolNil.proved
end Go.Proofs.Ytpgfcfojojemjaa
