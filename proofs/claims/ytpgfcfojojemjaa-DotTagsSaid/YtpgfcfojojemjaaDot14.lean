/- DotTags: for every vector, tag and replica the law returns true, and each argument reads behind the call as before; no condition. -/
import Derived.Test.YtpgfcfojojemjaaDot13
namespace Go.Proofs.Ytpgfcfojojemjaa.dotTags
open Go.ChangeShapes Go.WideShapes Go.ChangeAt Go.RowKit Go.PV
theorem over : Rows.dotTagsRow.holds Try.pinned (OpenSpec.ofChange Rows.dotTagsSpec) :=
  OpenClaim.holds_of_wide 3 Try.f3 rfl rfl rfl rfl rfl rfl rfl ⟨rfl, rfl, rfl, rfl, rfl⟩ rfl rfl rfl rfl rfl (by kernel_rfl) Try.func3 (by kernel_rfl)
    (of_decide_eq_true (by kernel_rfl)) (by unfold Func.isWrapper; first | (rw [if_pos (by decide +kernel)]; kernel_rfl) | (rw [if_neg (by decide +kernel)]; exact ⟨rfl, rfl⟩))
    (fun os started H enc _ => lifted os started H enc)
theorem proved : Rows.DotTagsSaid := over
#print axioms proved
end Go.Proofs.Ytpgfcfojojemjaa.dotTags
namespace Go.Proofs.Ytpgfcfojojemjaa
/-- The row, under a short name, for the claim. -/
theorem dotTags_holds : Rows.DotTagsSaid := dotTags.proved
end Go.Proofs.Ytpgfcfojojemjaa
