/- Closed calls: the table of types that are compared. -/
import Derived.Test.YtmccikbdiipdkaaTag0
namespace Go.PV
open Go.Proofs
theorem names : namesOk Try.prog = true := by kernel_rfl
noncomputable def tab : List (Nat × List TD) := [(23, [.int .i64, .int .i64]), (25, [.int .i64, .str, .str])]
theorem tabOk : TabOk Try.prog tab := by
  intro q hq
  simp only [tab, List.mem_cons, List.not_mem_nil, or_false] at hq
  rcases hq with rfl | rfl
  · exact .inl ⟨⟨_, _, _, _, ti23⟩, eqK23⟩
  · exact .inl ⟨⟨_, _, _, _, ti25⟩, eqK25⟩
end Go.PV
