/- OpOrders: for all ops a, b, c the law returns true, and each argument reads behind the call as before; no condition. -/
import Derived.Test.YtmccikbdiipdkaaOp4
namespace Go.Proofs.Ytmccikbdiipdkaa.opOrders
open Go.ChangeShapes Go.WideShapes Go.ChangeAt Go.RowKit Go.PV
theorem over : Rows.opOrdersRow.holds Try.pinned (OpenSpec.ofChange Rows.opOrdersSpec) :=
  OpenClaim.holds_of_wide 3 Try.f3 rfl rfl rfl rfl rfl rfl rfl ⟨rfl, rfl, rfl, rfl, rfl⟩ rfl rfl rfl rfl rfl (by kernel_rfl) Try.func3 (by kernel_rfl)
    (of_decide_eq_true (by kernel_rfl)) (by unfold Func.isWrapper; first | (rw [if_pos (by decide +kernel)]; kernel_rfl) | (rw [if_neg (by decide +kernel)]; exact ⟨rfl, rfl⟩))
    (fun os started H enc _ => lifted os started H enc)
theorem proved : Rows.OpOrdersSaid := over
#print axioms proved
end Go.Proofs.Ytmccikbdiipdkaa.opOrders
namespace Go.Proofs.Ytmccikbdiipdkaa
/-- The row, under a short name, for the claim. -/
theorem opOrders_holds : Rows.OpOrdersSaid := opOrders.proved
end Go.Proofs.Ytmccikbdiipdkaa
