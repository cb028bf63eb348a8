/-
  No cell of these rows narrows 'for every input' (looked for: loops, veiled, ifaces, maps, wideKeys, modest, calm, conditions, laid).
  DERIVED. THE GIVEN ROWS OF THIS SEAT. 4 by the template 'for every input the law returns true; each argument reads behind the call as it read before'; 0 by the template 'total and deterministic' (their statements: YtkcnpnnflbibiaaTotals.lean).
  GIVEN WITH THE SEED: the statements are not yours to turn. If you find one false, say at which input.
  Laid BY PROGRAM, IN A SANDBOX (cutbox-rows.mjs): the forced cells as the released guide's own fill.sh prints them over the translation e89cebd10653e9f0… (all of the seat's roots in one cut). By AI agents, Wed Nov 11 2026. No macro, syntax, notation, axiom, sorry.
-/
import Derived.Test.YtkcnpnnflbibiaaChecked
import GoSem.Claim
import GoSem.ClaimJoined
import GoSem.ClaimMapViews
import Derived.JoinedTies
import Derived.KernelRfl
namespace Go.Proofs.Ytkcnpnnflbibiaa
/- THE CELL 'sum', in the pinned program and in every row, IS THE sha256 OF THE DUMP (.gsa) THAT YtkcnpnnflbibiaaProg.lean LOADS. Nothing in Lean hashes anything: it is a label: what it is worth is what the hold of that sum in a sandbox is worth. -/
noncomputable def Try.pinned : Pinned := { name := "ytkcnpnnflbibiaa", sum := "e89cebd10653e9f09b9974391c22c1e04e6ff8809973321c10f04286f573054f", checked := Try.checked }
namespace Rows
def none {H : Type} : Left H := { results := [], args := [] }

/-- 'mandrellaw05.PbPasses': WHATEVER THE INPUT: true; the input reads as it did. -/
def pbPassesSpec : ChangeSpec := { name := "pbPasses", fn := fun _ => fun
  | [d1, d2, d3] => { results := [.lit (.bool true)], args := [d1, d2, d3] }
  | _ => none }
def pbPassesRow : OpenClaim := { program := "ytkcnpnnflbibiaa", sum := "e89cebd10653e9f09b9974391c22c1e04e6ff8809973321c10f04286f573054f", func := "mandrel/mandrellaw05.PbPasses", spec := "pbPasses", unfollowed := true, recurses := true, apart := false }
def PbPassesSaid : Prop := pbPassesRow.holds Try.pinned (OpenSpec.ofChange pbPassesSpec)

/-- ITS FALSE NEIGHBOUR: 'it returns false'. Refute it at one input. -/
def pbPassesWrong : ChangeSpec := { name := "pbPasses", fn := fun _ => fun
  | [d1, d2, d3] => { results := [.lit (.bool false)], args := [d1, d2, d3] }
  | _ => none }
def PbPassesWrongFalsely : Prop := pbPassesRow.holds Try.pinned (OpenSpec.ofChange pbPassesWrong)

/-- 'mandrellaw05.PbTells': WHATEVER THE INPUT: true; the input reads as it did. -/
def pbTellsSpec : ChangeSpec := { name := "pbTells", fn := fun _ => fun
  | [d] => { results := [.lit (.bool true)], args := [d] }
  | _ => none }
def pbTellsRow : OpenClaim := { program := "ytkcnpnnflbibiaa", sum := "e89cebd10653e9f09b9974391c22c1e04e6ff8809973321c10f04286f573054f", func := "mandrel/mandrellaw05.PbTells", spec := "pbTells", inPlace := ["math.Float32frombits"], unfollowed := true, recurses := true, apart := false }
def PbTellsSaid : Prop := pbTellsRow.holds Try.pinned (OpenSpec.ofChange pbTellsSpec)

/-- ITS FALSE NEIGHBOUR: 'it returns false'. Refute it at one input. -/
def pbTellsWrong : ChangeSpec := { name := "pbTells", fn := fun _ => fun
  | [d] => { results := [.lit (.bool false)], args := [d] }
  | _ => none }
def PbTellsWrongFalsely : Prop := pbTellsRow.holds Try.pinned (OpenSpec.ofChange pbTellsWrong)

/-- 'mandrellaw05.PbTensors': WHATEVER THE INPUT: true; the input reads as it did. -/
def pbTensorsSpec : ChangeSpec := { name := "pbTensors", fn := fun _ => fun
  | [d] => { results := [.lit (.bool true)], args := [d] }
  | _ => none }
def pbTensorsRow : OpenClaim := { program := "ytkcnpnnflbibiaa", sum := "e89cebd10653e9f09b9974391c22c1e04e6ff8809973321c10f04286f573054f", func := "mandrel/mandrellaw05.PbTensors", spec := "pbTensors", inPlace := ["math.Float32frombits"], unfollowed := true, recurses := true, apart := false }
def PbTensorsSaid : Prop := pbTensorsRow.holds Try.pinned (OpenSpec.ofChange pbTensorsSpec)

/-- ITS FALSE NEIGHBOUR: 'it returns false'. Refute it at one input. -/
def pbTensorsWrong : ChangeSpec := { name := "pbTensors", fn := fun _ => fun
  | [d] => { results := [.lit (.bool false)], args := [d] }
  | _ => none }
def PbTensorsWrongFalsely : Prop := pbTensorsRow.holds Try.pinned (OpenSpec.ofChange pbTensorsWrong)

/-- 'mandrellaw05.PbJoins': WHATEVER THE INPUT: true; the input reads as it did. -/
def pbJoinsSpec : ChangeSpec := { name := "pbJoins", fn := fun _ => fun
  | [d1, d2] => { results := [.lit (.bool true)], args := [d1, d2] }
  | _ => none }
def pbJoinsRow : OpenClaim := { program := "ytkcnpnnflbibiaa", sum := "e89cebd10653e9f09b9974391c22c1e04e6ff8809973321c10f04286f573054f", func := "mandrel/mandrellaw05.PbJoins", spec := "pbJoins", inPlace := ["math.Float32frombits"], unfollowed := true, recurses := true, apart := false }
def PbJoinsSaid : Prop := pbJoinsRow.holds Try.pinned (OpenSpec.ofChange pbJoinsSpec)

/-- ITS FALSE NEIGHBOUR: 'it returns false'. Refute it at one input. -/
def pbJoinsWrong : ChangeSpec := { name := "pbJoins", fn := fun _ => fun
  | [d1, d2] => { results := [.lit (.bool false)], args := [d1, d2] }
  | _ => none }
def PbJoinsWrongFalsely : Prop := pbJoinsRow.holds Try.pinned (OpenSpec.ofChange pbJoinsWrong)

/- THE SECOND FORM. 'bulk': how many values and letters a reading holds, each counted each time it is reached (what is shared counts as often as it is met; a slice's spare places count too). A statement '..UptoSaid' is the law's where the arguments, and the package variables that the reading takes, are together of bulk at most 1048576: NARROWER than '..Said'. Prove '..Said' where nothing that the law and all that it calls make is longer than what came in: it says more and counts as full. Else prove '..UptoSaid'. A law counts once. -/
mutual
def uptoBulk {H : Type} : DataW H → Nat
  | .lit (.string bytes) => bytes.length + 1
  | .lit _ => 1
  | .nil => 1
  | .ptr d => uptoBulk d + 1
  | .slice elems spare => uptoBulkAll elems + uptoBulkAll spare + 1
  | .agg parts => uptoBulkAll parts + 1
  | .iface _ d => uptoBulk d + 1
  | .map entries => uptoBulkEntries entries + 1
  | .held _ => 1
def uptoBulkAll {H : Type} : List (DataW H) → Nat
  | [] => 0
  | d :: r => uptoBulk d + uptoBulkAll r
def uptoBulkEntries {H : Type} : List (Lit × DataW H) → Nat
  | [] => 0
  | x :: r => uptoBulkEntry x + uptoBulkEntries r
def uptoBulkEntry {H : Type} : Lit × DataW H → Nat
  | (.string bytes, d) => bytes.length + uptoBulk d + 1
  | (_, d) => uptoBulk d + 1
 end
def uptoSmall : (H : Type) → List (DataW H) → Bool := fun _ ds => decide (uptoBulkAll ds ≤ 1048576)
def OpenSpec.upto (s : _root_.Go.ChangeSpec) : _root_.Go.OpenSpec := { _root_.Go.OpenSpec.ofChange s with cond := some uptoSmall }

/-- 'mandrellaw05.PbPasses', WHERE WHAT IT READS IS OF BULK AT MOST 1048576: true; the input reads as it did. -/
def pbPassesUptoRow : OpenClaim := { program := "ytkcnpnnflbibiaa", sum := "e89cebd10653e9f09b9974391c22c1e04e6ff8809973321c10f04286f573054f", func := "mandrel/mandrellaw05.PbPasses", spec := "pbPasses", unfollowed := true, recurses := true, apart := false, narrowed := true }
def PbPassesUptoSaid : Prop := pbPassesUptoRow.holds Try.pinned (OpenSpec.upto pbPassesSpec)

/-- 'mandrellaw05.PbTells', WHERE WHAT IT READS IS OF BULK AT MOST 1048576: true; the input reads as it did. -/
def pbTellsUptoRow : OpenClaim := { program := "ytkcnpnnflbibiaa", sum := "e89cebd10653e9f09b9974391c22c1e04e6ff8809973321c10f04286f573054f", func := "mandrel/mandrellaw05.PbTells", spec := "pbTells", inPlace := ["math.Float32frombits"], unfollowed := true, recurses := true, apart := false, narrowed := true }
def PbTellsUptoSaid : Prop := pbTellsUptoRow.holds Try.pinned (OpenSpec.upto pbTellsSpec)

/-- 'mandrellaw05.PbTensors', WHERE WHAT IT READS IS OF BULK AT MOST 1048576: true; the input reads as it did. -/
def pbTensorsUptoRow : OpenClaim := { program := "ytkcnpnnflbibiaa", sum := "e89cebd10653e9f09b9974391c22c1e04e6ff8809973321c10f04286f573054f", func := "mandrel/mandrellaw05.PbTensors", spec := "pbTensors", inPlace := ["math.Float32frombits"], unfollowed := true, recurses := true, apart := false, narrowed := true }
def PbTensorsUptoSaid : Prop := pbTensorsUptoRow.holds Try.pinned (OpenSpec.upto pbTensorsSpec)

/-- 'mandrellaw05.PbJoins', WHERE WHAT IT READS IS OF BULK AT MOST 1048576: true; the input reads as it did. -/
def pbJoinsUptoRow : OpenClaim := { program := "ytkcnpnnflbibiaa", sum := "e89cebd10653e9f09b9974391c22c1e04e6ff8809973321c10f04286f573054f", func := "mandrel/mandrellaw05.PbJoins", spec := "pbJoins", inPlace := ["math.Float32frombits"], unfollowed := true, recurses := true, apart := false, narrowed := true }
def PbJoinsUptoSaid : Prop := pbJoinsUptoRow.holds Try.pinned (OpenSpec.upto pbJoinsSpec)

end Rows
end Go.Proofs.Ytkcnpnnflbibiaa
