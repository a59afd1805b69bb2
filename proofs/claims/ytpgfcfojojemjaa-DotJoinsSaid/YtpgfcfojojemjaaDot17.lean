/- DotJoins: for all vectors a, b, c the law returns true, and each argument reads behind the call as before; no condition. -/
import Derived.Test.YtpgfcfojojemjaaDot16
namespace Go.Proofs.Ytpgfcfojojemjaa.dotJoins
open Go.ChangeShapes Go.WideShapes Go.ChangeAt Go.RowKit Go.PV
theorem over : Rows.dotJoinsRow.holds Try.pinned (OpenSpec.ofChange Rows.dotJoinsSpec) :=
  OpenClaim.holds_of_wide 4 Try.f4 rfl rfl rfl rfl rfl rfl rfl ⟨rfl, rfl, rfl, rfl, rfl⟩ rfl rfl rfl rfl rfl (by kernel_rfl) Try.func4 (by kernel_rfl)
    (of_decide_eq_true (by kernel_rfl)) (by unfold Func.isWrapper; first | (rw [if_pos (by decide +kernel)]; kernel_rfl) | (rw [if_neg (by decide +kernel)]; exact ⟨rfl, rfl⟩))
    (fun os started H enc _ => lifted os started H enc)
theorem proved : Rows.DotJoinsSaid := over
#print axioms proved
end Go.Proofs.Ytpgfcfojojemjaa.dotJoins
namespace Go.Proofs.Ytpgfcfojojemjaa
/-- The row, under a short name, for the claim. -/
theorem dotJoins_holds : Rows.DotJoinsSaid := dotJoins.proved
end Go.Proofs.Ytpgfcfojojemjaa
