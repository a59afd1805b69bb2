/-
  No cell of these rows narrows 'for every input' (looked for: loops, veiled, ifaces, maps, wideKeys, modest, calm, conditions, laid).
  DERIVED. THE GIVEN ROWS OF THIS SEAT. 3 by the template 'for every input the law returns true; each argument reads behind the call as it read before'; 0 by the template 'total and deterministic' (their statements: YtmccikbdiipdkaaTotals.lean).
  GIVEN WITH THE SEED: the statements are not yours to turn. If you find one false, say at which input.
  Laid BY PROGRAM, IN A SANDBOX (cutbox-rows.mjs): the forced cells as the released guide's own fill.sh prints them over the translation 9735f11bd8de105f… (all of the seat's roots in one cut). By AI agents, Wed Nov 11 2026. No macro, syntax, notation, axiom, sorry.
-/
import Derived.Test.YtmccikbdiipdkaaChecked
import GoSem.Claim
import GoSem.ClaimJoined
import GoSem.ClaimMapViews
import Derived.JoinedTies
import Derived.KernelRfl
namespace Go.Proofs.Ytmccikbdiipdkaa
/- THE CELL 'sum', in the pinned program and in every row, IS THE sha256 OF THE DUMP (.gsa) THAT YtmccikbdiipdkaaProg.lean LOADS. Nothing in Lean hashes anything: it is a label: what it is worth is what the hold of that sum in a sandbox is worth. -/
noncomputable def Try.pinned : Pinned := { name := "ytmccikbdiipdkaa", sum := "9735f11bd8de105f63d47f8138f31f925f6429d22759aa99cccbf4f25e9b0703", checked := Try.checked }
namespace Rows
def none {H : Type} : Left H := { results := [], args := [] }

/-- 'punnetlaw20.OpOrders': WHATEVER THE INPUT: true; the input reads as it did. -/
def opOrdersSpec : ChangeSpec := { name := "opOrders", fn := fun _ => fun
  | [d1, d2, d3] => { results := [.lit (.bool true)], args := [d1, d2, d3] }
  | _ => none }
def opOrdersRow : OpenClaim := { program := "ytmccikbdiipdkaa", sum := "9735f11bd8de105f63d47f8138f31f925f6429d22759aa99cccbf4f25e9b0703", func := "punnet/punnetlaw20.OpOrders", spec := "opOrders", unfollowed := true, recurses := true, apart := false }
def OpOrdersSaid : Prop := opOrdersRow.holds Try.pinned (OpenSpec.ofChange opOrdersSpec)

/-- ITS FALSE NEIGHBOUR: 'it returns false'. Refute it at one input. -/
def opOrdersWrong : ChangeSpec := { name := "opOrders", fn := fun _ => fun
  | [d1, d2, d3] => { results := [.lit (.bool false)], args := [d1, d2, d3] }
  | _ => none }
def OpOrdersWrongFalsely : Prop := opOrdersRow.holds Try.pinned (OpenSpec.ofChange opOrdersWrong)

/-- 'punnetlaw20.OpFormats': WHATEVER THE INPUT: true; the input reads as it did. -/
def opFormatsSpec : ChangeSpec := { name := "opFormats", fn := fun _ => fun
  | [d] => { results := [.lit (.bool true)], args := [d] }
  | _ => none }
def opFormatsRow : OpenClaim := { program := "ytmccikbdiipdkaa", sum := "9735f11bd8de105f63d47f8138f31f925f6429d22759aa99cccbf4f25e9b0703", func := "punnet/punnetlaw20.OpFormats", spec := "opFormats", unfollowed := true, recurses := true, apart := false }
def OpFormatsSaid : Prop := opFormatsRow.holds Try.pinned (OpenSpec.ofChange opFormatsSpec)

/-- ITS FALSE NEIGHBOUR: 'it returns false'. Refute it at one input. -/
def opFormatsWrong : ChangeSpec := { name := "opFormats", fn := fun _ => fun
  | [d] => { results := [.lit (.bool false)], args := [d] }
  | _ => none }
def OpFormatsWrongFalsely : Prop := opFormatsRow.holds Try.pinned (OpenSpec.ofChange opFormatsWrong)

/-- 'punnetlaw20.OpBytes': WHATEVER THE INPUT: true; the input reads as it did. -/
def opBytesSpec : ChangeSpec := { name := "opBytes", fn := fun _ => fun
  | [d1, d2, d3] => { results := [.lit (.bool true)], args := [d1, d2, d3] }
  | _ => none }
def opBytesRow : OpenClaim := { program := "ytmccikbdiipdkaa", sum := "9735f11bd8de105f63d47f8138f31f925f6429d22759aa99cccbf4f25e9b0703", func := "punnet/punnetlaw20.OpBytes", spec := "opBytes", unfollowed := true, recurses := true, apart := false }
def OpBytesSaid : Prop := opBytesRow.holds Try.pinned (OpenSpec.ofChange opBytesSpec)

/-- ITS FALSE NEIGHBOUR: 'it returns false'. Refute it at one input. -/
def opBytesWrong : ChangeSpec := { name := "opBytes", fn := fun _ => fun
  | [d1, d2, d3] => { results := [.lit (.bool false)], args := [d1, d2, d3] }
  | _ => none }
def OpBytesWrongFalsely : Prop := opBytesRow.holds Try.pinned (OpenSpec.ofChange opBytesWrong)

/- THE SECOND FORM. 'bulk': how many values and letters a reading holds, each counted each time it is reached (what is shared counts as often as it is met; a slice's spare places count too). A statement '..UptoSaid' is the law's where the arguments, and the package variables that the reading takes, are together of bulk at most 1048576: NARROWER than '..Said'. Prove '..Said' where nothing that the law and all that it calls make is longer than what came in: it says more and counts as full. Else prove '..UptoSaid'. A law counts once. -/
mutual
def uptoBulk {H : Type} : DataW H → Nat
  | .lit (.string bytes) => bytes.length + 1
  | .lit _ => 1
  | .nil => 1
  | .ptr d => uptoBulk d + 1
  | .slice elems spare => uptoBulkAll elems + uptoBulkAll spare + 1
  | .agg parts => uptoBulkAll parts + 1
  | .iface _ d => uptoBulk d + 1
  | .map entries => uptoBulkEntries entries + 1
  | .held _ => 1
def uptoBulkAll {H : Type} : List (DataW H) → Nat
  | [] => 0
  | d :: r => uptoBulk d + uptoBulkAll r
def uptoBulkEntries {H : Type} : List (Lit × DataW H) → Nat
  | [] => 0
  | x :: r => uptoBulkEntry x + uptoBulkEntries r
def uptoBulkEntry {H : Type} : Lit × DataW H → Nat
  | (.string bytes, d) => bytes.length + uptoBulk d + 1
  | (_, d) => uptoBulk d + 1
 end
def uptoSmall : (H : Type) → List (DataW H) → Bool := fun _ ds => decide (uptoBulkAll ds ≤ 1048576)
def OpenSpec.upto (s : _root_.Go.ChangeSpec) : _root_.Go.OpenSpec := { _root_.Go.OpenSpec.ofChange s with cond := some uptoSmall }

/-- 'punnetlaw20.OpOrders', WHERE WHAT IT READS IS OF BULK AT MOST 1048576: true; the input reads as it did. -/
def opOrdersUptoRow : OpenClaim := { program := "ytmccikbdiipdkaa", sum := "9735f11bd8de105f63d47f8138f31f925f6429d22759aa99cccbf4f25e9b0703", func := "punnet/punnetlaw20.OpOrders", spec := "opOrders", unfollowed := true, recurses := true, apart := false, narrowed := true }
def OpOrdersUptoSaid : Prop := opOrdersUptoRow.holds Try.pinned (OpenSpec.upto opOrdersSpec)

/-- 'punnetlaw20.OpFormats', WHERE WHAT IT READS IS OF BULK AT MOST 1048576: true; the input reads as it did. -/
def opFormatsUptoRow : OpenClaim := { program := "ytmccikbdiipdkaa", sum := "9735f11bd8de105f63d47f8138f31f925f6429d22759aa99cccbf4f25e9b0703", func := "punnet/punnetlaw20.OpFormats", spec := "opFormats", unfollowed := true, recurses := true, apart := false, narrowed := true }
def OpFormatsUptoSaid : Prop := opFormatsUptoRow.holds Try.pinned (OpenSpec.upto opFormatsSpec)

/-- 'punnetlaw20.OpBytes', WHERE WHAT IT READS IS OF BULK AT MOST 1048576: true; the input reads as it did. -/
def opBytesUptoRow : OpenClaim := { program := "ytmccikbdiipdkaa", sum := "9735f11bd8de105f63d47f8138f31f925f6429d22759aa99cccbf4f25e9b0703", func := "punnet/punnetlaw20.OpBytes", spec := "opBytes", unfollowed := true, recurses := true, apart := false, narrowed := true }
def OpBytesUptoSaid : Prop := opBytesUptoRow.holds Try.pinned (OpenSpec.upto opBytesSpec)

end Rows
end Go.Proofs.Ytmccikbdiipdkaa
