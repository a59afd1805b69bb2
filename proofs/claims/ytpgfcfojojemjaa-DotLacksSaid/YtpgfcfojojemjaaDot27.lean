/- DotLacks: for all vectors a, b the law returns true, and each argument reads behind the call as before; no condition. -/
import Derived.Test.YtpgfcfojojemjaaDot26
namespace Go.Proofs.Ytpgfcfojojemjaa.dotLacks
open Go.ChangeShapes Go.WideShapes Go.ChangeAt Go.RowKit Go.PV
theorem over : Rows.dotLacksRow.holds Try.pinned (OpenSpec.ofChange Rows.dotLacksSpec) :=
  OpenClaim.holds_of_wide 5 Try.f5 rfl rfl rfl rfl rfl rfl rfl ⟨rfl, rfl, rfl, rfl, rfl⟩ rfl rfl rfl rfl rfl (by kernel_rfl) Try.func5 (by kernel_rfl)
    (of_decide_eq_true (by kernel_rfl)) (by unfold Func.isWrapper; first | (rw [if_pos (by decide +kernel)]; kernel_rfl) | (rw [if_neg (by decide +kernel)]; exact ⟨rfl, rfl⟩))
    (fun os started H enc _ => lifted os started H enc)
theorem proved : Rows.DotLacksSaid := over
#print axioms proved
end Go.Proofs.Ytpgfcfojojemjaa.dotLacks
namespace Go.Proofs.Ytpgfcfojojemjaa
/-- The row, under a short name, for the claim. -/
theorem dotLacks_holds : Rows.DotLacksSaid := dotLacks.proved
end Go.Proofs.Ytpgfcfojojemjaa
