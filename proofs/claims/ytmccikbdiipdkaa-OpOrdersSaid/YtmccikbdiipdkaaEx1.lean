/- awake. -/
import Derived.Test.YtmccikbdiipdkaaTab0
namespace Go.PV
open Go.Proofs
theorem x_awake20 : VC Try.prog 6 [] [] (fun q _ => q = .bool true) :=
  VC_closed (tab := tab) 10000 20 mixed names tabOk rfl rfl rfl rfl (by kernel_rfl)
end Go.PV
