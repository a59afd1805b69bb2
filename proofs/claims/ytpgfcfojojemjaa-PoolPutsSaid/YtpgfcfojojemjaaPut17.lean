/- PoolPuts: for all lists of ops l, tags look, vectors v and sizes most the law returns true, and each argument reads behind the call as before; no condition. -/
import Derived.Test.YtpgfcfojojemjaaT39
namespace Go.Proofs.Ytpgfcfojojemjaa.poolPuts
open Go.ChangeShapes Go.WideShapes Go.ChangeAt Go.RowKit Go.PV
theorem over : Rows.poolPutsRow.holds Try.pinned (OpenSpec.ofChange Rows.poolPutsSpec) :=
  OpenClaim.holds_of_wide 9 Try.f9 rfl rfl rfl rfl rfl rfl rfl ⟨rfl,rfl,rfl,rfl,rfl⟩ rfl rfl rfl rfl rfl (by kernel_rfl) Try.func9 (by kernel_rfl)
    (of_decide_eq_true (by kernel_rfl)) (by unfold Func.isWrapper; first | (rw [if_pos (by decide +kernel)]; kernel_rfl) | (rw [if_neg (by decide +kernel)]; exact ⟨rfl,rfl⟩))
    (fun os started H enc _ => lifted os started H enc)
theorem proved : Rows.PoolPutsSaid := over
#print axioms proved
end Go.Proofs.Ytpgfcfojojemjaa.poolPuts
namespace Go.Proofs.Ytpgfcfojojemjaa
/-- The row, under a short name, for the claim. -/
theorem poolPuts_holds : Rows.PoolPutsSaid := poolPuts.proved
end Go.Proofs.Ytpgfcfojojemjaa
