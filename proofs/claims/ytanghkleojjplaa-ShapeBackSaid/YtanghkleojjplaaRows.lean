/-
  No cell of these rows narrows 'for every input' (looked for: loops, veiled, ifaces, maps, wideKeys, modest, calm, conditions, laid).
  DERIVED. THE GIVEN ROWS OF THIS SEAT. 8 by the template 'for every input the law returns true; each argument reads behind the call as it read before'; 0 by the template 'total and deterministic' (their statements: YtanghkleojjplaaTotals.lean).
  GIVEN WITH THE SEED: the statements are not yours to turn. If you find one false, say at which input.
  Laid BY PROGRAM, IN A SANDBOX (cutbox-rows.mjs): the forced cells as the released guide's own fill.sh prints them over the translation a6f0c2def9c523a6… (all of the seat's roots in one cut). By AI agents, Wed Nov 11 2026. No macro, syntax, notation, axiom, sorry.
-/
import Derived.Test.YtanghkleojjplaaChecked
import GoSem.Claim
import GoSem.ClaimJoined
import GoSem.ClaimMapViews
import Derived.JoinedTies
import Derived.KernelRfl
namespace Go.Proofs.Ytanghkleojjplaa
/- THE CELL 'sum', in the pinned program and in every row, IS THE sha256 OF THE DUMP (.gsa) THAT YtanghkleojjplaaProg.lean LOADS. Nothing in Lean hashes anything: it is a label: what it is worth is what the hold of that sum in a sandbox is worth. -/
noncomputable def Try.pinned : Pinned := { name := "ytanghkleojjplaa", sum := "a6f0c2def9c523a666e19d196887b31e8022925a4e1d96d3918a2d1c4be91ae0", checked := Try.checked }
namespace Rows
def none {H : Type} : Left H := { results := [], args := [] }

/-- 'mandrellaw03.ShapeCounts': WHATEVER THE INPUT: true; the input reads as it did. -/
def shapeCountsSpec : ChangeSpec := { name := "shapeCounts", fn := fun _ => fun
  | [d] => { results := [.lit (.bool true)], args := [d] }
  | _ => none }
def shapeCountsRow : OpenClaim := { program := "ytanghkleojjplaa", sum := "a6f0c2def9c523a666e19d196887b31e8022925a4e1d96d3918a2d1c4be91ae0", func := "mandrel/mandrellaw03.ShapeCounts", spec := "shapeCounts", unfollowed := true, recurses := true, apart := false }
def ShapeCountsSaid : Prop := shapeCountsRow.holds Try.pinned (OpenSpec.ofChange shapeCountsSpec)

/-- ITS FALSE NEIGHBOUR: 'it returns false'. Refute it at one input. -/
def shapeCountsWrong : ChangeSpec := { name := "shapeCounts", fn := fun _ => fun
  | [d] => { results := [.lit (.bool false)], args := [d] }
  | _ => none }
def ShapeCountsWrongFalsely : Prop := shapeCountsRow.holds Try.pinned (OpenSpec.ofChange shapeCountsWrong)

/-- 'mandrellaw03.ShapeSpreads': WHATEVER THE INPUT: true; the input reads as it did. -/
def shapeSpreadsSpec : ChangeSpec := { name := "shapeSpreads", fn := fun _ => fun
  | [d1, d2] => { results := [.lit (.bool true)], args := [d1, d2] }
  | _ => none }
def shapeSpreadsRow : OpenClaim := { program := "ytanghkleojjplaa", sum := "a6f0c2def9c523a666e19d196887b31e8022925a4e1d96d3918a2d1c4be91ae0", func := "mandrel/mandrellaw03.ShapeSpreads", spec := "shapeSpreads", unfollowed := true, recurses := true, apart := false }
def ShapeSpreadsSaid : Prop := shapeSpreadsRow.holds Try.pinned (OpenSpec.ofChange shapeSpreadsSpec)

/-- ITS FALSE NEIGHBOUR: 'it returns false'. Refute it at one input. -/
def shapeSpreadsWrong : ChangeSpec := { name := "shapeSpreads", fn := fun _ => fun
  | [d1, d2] => { results := [.lit (.bool false)], args := [d1, d2] }
  | _ => none }
def ShapeSpreadsWrongFalsely : Prop := shapeSpreadsRow.holds Try.pinned (OpenSpec.ofChange shapeSpreadsWrong)

/-- 'mandrellaw03.ShapePlaces': WHATEVER THE INPUT: true; the input reads as it did. -/
def shapePlacesSpec : ChangeSpec := { name := "shapePlaces", fn := fun _ => fun
  | [d1, d2, d3] => { results := [.lit (.bool true)], args := [d1, d2, d3] }
  | _ => none }
def shapePlacesRow : OpenClaim := { program := "ytanghkleojjplaa", sum := "a6f0c2def9c523a666e19d196887b31e8022925a4e1d96d3918a2d1c4be91ae0", func := "mandrel/mandrellaw03.ShapePlaces", spec := "shapePlaces", unfollowed := true, recurses := true, apart := false }
def ShapePlacesSaid : Prop := shapePlacesRow.holds Try.pinned (OpenSpec.ofChange shapePlacesSpec)

/-- ITS FALSE NEIGHBOUR: 'it returns false'. Refute it at one input. -/
def shapePlacesWrong : ChangeSpec := { name := "shapePlaces", fn := fun _ => fun
  | [d1, d2, d3] => { results := [.lit (.bool false)], args := [d1, d2, d3] }
  | _ => none }
def ShapePlacesWrongFalsely : Prop := shapePlacesRow.holds Try.pinned (OpenSpec.ofChange shapePlacesWrong)

/-- 'mandrellaw03.ShapeBack': WHATEVER THE INPUT: true; the input reads as it did. -/
def shapeBackSpec : ChangeSpec := { name := "shapeBack", fn := fun _ => fun
  | [d1, d2] => { results := [.lit (.bool true)], args := [d1, d2] }
  | _ => none }
def shapeBackRow : OpenClaim := { program := "ytanghkleojjplaa", sum := "a6f0c2def9c523a666e19d196887b31e8022925a4e1d96d3918a2d1c4be91ae0", func := "mandrel/mandrellaw03.ShapeBack", spec := "shapeBack", unfollowed := true, recurses := true, apart := false }
def ShapeBackSaid : Prop := shapeBackRow.holds Try.pinned (OpenSpec.ofChange shapeBackSpec)

/-- ITS FALSE NEIGHBOUR: 'it returns false'. Refute it at one input. -/
def shapeBackWrong : ChangeSpec := { name := "shapeBack", fn := fun _ => fun
  | [d1, d2] => { results := [.lit (.bool false)], args := [d1, d2] }
  | _ => none }
def ShapeBackWrongFalsely : Prop := shapeBackRow.holds Try.pinned (OpenSpec.ofChange shapeBackWrong)

/-- 'mandrellaw03.ShapeNext': WHATEVER THE INPUT: true; the input reads as it did. -/
def shapeNextSpec : ChangeSpec := { name := "shapeNext", fn := fun _ => fun
  | [d1, d2] => { results := [.lit (.bool true)], args := [d1, d2] }
  | _ => none }
def shapeNextRow : OpenClaim := { program := "ytanghkleojjplaa", sum := "a6f0c2def9c523a666e19d196887b31e8022925a4e1d96d3918a2d1c4be91ae0", func := "mandrel/mandrellaw03.ShapeNext", spec := "shapeNext", unfollowed := true, recurses := true, apart := false }
def ShapeNextSaid : Prop := shapeNextRow.holds Try.pinned (OpenSpec.ofChange shapeNextSpec)

/-- ITS FALSE NEIGHBOUR: 'it returns false'. Refute it at one input. -/
def shapeNextWrong : ChangeSpec := { name := "shapeNext", fn := fun _ => fun
  | [d1, d2] => { results := [.lit (.bool false)], args := [d1, d2] }
  | _ => none }
def ShapeNextWrongFalsely : Prop := shapeNextRow.holds Try.pinned (OpenSpec.ofChange shapeNextWrong)

/-- 'mandrellaw03.ShapeEven': WHATEVER THE INPUT: true; the input reads as it did. -/
def shapeEvenSpec : ChangeSpec := { name := "shapeEven", fn := fun _ => fun
  | [d1, d2, d3] => { results := [.lit (.bool true)], args := [d1, d2, d3] }
  | _ => none }
def shapeEvenRow : OpenClaim := { program := "ytanghkleojjplaa", sum := "a6f0c2def9c523a666e19d196887b31e8022925a4e1d96d3918a2d1c4be91ae0", func := "mandrel/mandrellaw03.ShapeEven", spec := "shapeEven", unfollowed := true, recurses := true, apart := false }
def ShapeEvenSaid : Prop := shapeEvenRow.holds Try.pinned (OpenSpec.ofChange shapeEvenSpec)

/-- ITS FALSE NEIGHBOUR: 'it returns false'. Refute it at one input. -/
def shapeEvenWrong : ChangeSpec := { name := "shapeEven", fn := fun _ => fun
  | [d1, d2, d3] => { results := [.lit (.bool false)], args := [d1, d2, d3] }
  | _ => none }
def ShapeEvenWrongFalsely : Prop := shapeEvenRow.holds Try.pinned (OpenSpec.ofChange shapeEvenWrong)

/-- 'mandrellaw03.ShapeProduct': WHATEVER THE INPUT: true; the input reads as it did. -/
def shapeProductSpec : ChangeSpec := { name := "shapeProduct", fn := fun _ => fun
  | [d1, d2] => { results := [.lit (.bool true)], args := [d1, d2] }
  | _ => none }
def shapeProductRow : OpenClaim := { program := "ytanghkleojjplaa", sum := "a6f0c2def9c523a666e19d196887b31e8022925a4e1d96d3918a2d1c4be91ae0", func := "mandrel/mandrellaw03.ShapeProduct", spec := "shapeProduct", unfollowed := true, recurses := true, apart := false }
def ShapeProductSaid : Prop := shapeProductRow.holds Try.pinned (OpenSpec.ofChange shapeProductSpec)

/-- ITS FALSE NEIGHBOUR: 'it returns false'. Refute it at one input. -/
def shapeProductWrong : ChangeSpec := { name := "shapeProduct", fn := fun _ => fun
  | [d1, d2] => { results := [.lit (.bool false)], args := [d1, d2] }
  | _ => none }
def ShapeProductWrongFalsely : Prop := shapeProductRow.holds Try.pinned (OpenSpec.ofChange shapeProductWrong)

/-- 'mandrellaw03.ShapeSteps': WHATEVER THE INPUT: true; the input reads as it did. -/
def shapeStepsSpec : ChangeSpec := { name := "shapeSteps", fn := fun _ => fun
  | [d1, d2] => { results := [.lit (.bool true)], args := [d1, d2] }
  | _ => none }
def shapeStepsRow : OpenClaim := { program := "ytanghkleojjplaa", sum := "a6f0c2def9c523a666e19d196887b31e8022925a4e1d96d3918a2d1c4be91ae0", func := "mandrel/mandrellaw03.ShapeSteps", spec := "shapeSteps", unfollowed := true, recurses := true, apart := false }
def ShapeStepsSaid : Prop := shapeStepsRow.holds Try.pinned (OpenSpec.ofChange shapeStepsSpec)

/-- ITS FALSE NEIGHBOUR: 'it returns false'. Refute it at one input. -/
def shapeStepsWrong : ChangeSpec := { name := "shapeSteps", fn := fun _ => fun
  | [d1, d2] => { results := [.lit (.bool false)], args := [d1, d2] }
  | _ => none }
def ShapeStepsWrongFalsely : Prop := shapeStepsRow.holds Try.pinned (OpenSpec.ofChange shapeStepsWrong)

/- THE SECOND FORM. 'bulk': how many values and letters a reading holds, each counted each time it is reached (what is shared counts as often as it is met; a slice's spare places count too). A statement '..UptoSaid' is the law's where the arguments, and the package variables that the reading takes, are together of bulk at most 1048576: NARROWER than '..Said'. Prove '..Said' where nothing that the law and all that it calls make is longer than what came in: it says more and counts as full. Else prove '..UptoSaid'. A law counts once. -/
mutual
def uptoBulk {H : Type} : DataW H → Nat
  | .lit (.string bytes) => bytes.length + 1
  | .lit _ => 1
  | .nil => 1
  | .ptr d => uptoBulk d + 1
  | .slice elems spare => uptoBulkAll elems + uptoBulkAll spare + 1
  | .agg parts => uptoBulkAll parts + 1
  | .iface _ d => uptoBulk d + 1
  | .map entries => uptoBulkEntries entries + 1
  | .held _ => 1
def uptoBulkAll {H : Type} : List (DataW H) → Nat
  | [] => 0
  | d :: r => uptoBulk d + uptoBulkAll r
def uptoBulkEntries {H : Type} : List (Lit × DataW H) → Nat
  | [] => 0
  | x :: r => uptoBulkEntry x + uptoBulkEntries r
def uptoBulkEntry {H : Type} : Lit × DataW H → Nat
  | (.string bytes, d) => bytes.length + uptoBulk d + 1
  | (_, d) => uptoBulk d + 1
 end
def uptoSmall : (H : Type) → List (DataW H) → Bool := fun _ ds => decide (uptoBulkAll ds ≤ 1048576)
def OpenSpec.upto (s : _root_.Go.ChangeSpec) : _root_.Go.OpenSpec := { _root_.Go.OpenSpec.ofChange s with cond := some uptoSmall }

/-- 'mandrellaw03.ShapeCounts', WHERE WHAT IT READS IS OF BULK AT MOST 1048576: true; the input reads as it did. -/
def shapeCountsUptoRow : OpenClaim := { program := "ytanghkleojjplaa", sum := "a6f0c2def9c523a666e19d196887b31e8022925a4e1d96d3918a2d1c4be91ae0", func := "mandrel/mandrellaw03.ShapeCounts", spec := "shapeCounts", unfollowed := true, recurses := true, apart := false, narrowed := true }
def ShapeCountsUptoSaid : Prop := shapeCountsUptoRow.holds Try.pinned (OpenSpec.upto shapeCountsSpec)

/-- 'mandrellaw03.ShapeSpreads', WHERE WHAT IT READS IS OF BULK AT MOST 1048576: true; the input reads as it did. -/
def shapeSpreadsUptoRow : OpenClaim := { program := "ytanghkleojjplaa", sum := "a6f0c2def9c523a666e19d196887b31e8022925a4e1d96d3918a2d1c4be91ae0", func := "mandrel/mandrellaw03.ShapeSpreads", spec := "shapeSpreads", unfollowed := true, recurses := true, apart := false, narrowed := true }
def ShapeSpreadsUptoSaid : Prop := shapeSpreadsUptoRow.holds Try.pinned (OpenSpec.upto shapeSpreadsSpec)

/-- 'mandrellaw03.ShapePlaces', WHERE WHAT IT READS IS OF BULK AT MOST 1048576: true; the input reads as it did. -/
def shapePlacesUptoRow : OpenClaim := { program := "ytanghkleojjplaa", sum := "a6f0c2def9c523a666e19d196887b31e8022925a4e1d96d3918a2d1c4be91ae0", func := "mandrel/mandrellaw03.ShapePlaces", spec := "shapePlaces", unfollowed := true, recurses := true, apart := false, narrowed := true }
def ShapePlacesUptoSaid : Prop := shapePlacesUptoRow.holds Try.pinned (OpenSpec.upto shapePlacesSpec)

/-- 'mandrellaw03.ShapeBack', WHERE WHAT IT READS IS OF BULK AT MOST 1048576: true; the input reads as it did. -/
def shapeBackUptoRow : OpenClaim := { program := "ytanghkleojjplaa", sum := "a6f0c2def9c523a666e19d196887b31e8022925a4e1d96d3918a2d1c4be91ae0", func := "mandrel/mandrellaw03.ShapeBack", spec := "shapeBack", unfollowed := true, recurses := true, apart := false, narrowed := true }
def ShapeBackUptoSaid : Prop := shapeBackUptoRow.holds Try.pinned (OpenSpec.upto shapeBackSpec)

/-- 'mandrellaw03.ShapeNext', WHERE WHAT IT READS IS OF BULK AT MOST 1048576: true; the input reads as it did. -/
def shapeNextUptoRow : OpenClaim := { program := "ytanghkleojjplaa", sum := "a6f0c2def9c523a666e19d196887b31e8022925a4e1d96d3918a2d1c4be91ae0", func := "mandrel/mandrellaw03.ShapeNext", spec := "shapeNext", unfollowed := true, recurses := true, apart := false, narrowed := true }
def ShapeNextUptoSaid : Prop := shapeNextUptoRow.holds Try.pinned (OpenSpec.upto shapeNextSpec)

/-- 'mandrellaw03.ShapeEven', WHERE WHAT IT READS IS OF BULK AT MOST 1048576: true; the input reads as it did. -/
def shapeEvenUptoRow : OpenClaim := { program := "ytanghkleojjplaa", sum := "a6f0c2def9c523a666e19d196887b31e8022925a4e1d96d3918a2d1c4be91ae0", func := "mandrel/mandrellaw03.ShapeEven", spec := "shapeEven", unfollowed := true, recurses := true, apart := false, narrowed := true }
def ShapeEvenUptoSaid : Prop := shapeEvenUptoRow.holds Try.pinned (OpenSpec.upto shapeEvenSpec)

/-- 'mandrellaw03.ShapeProduct', WHERE WHAT IT READS IS OF BULK AT MOST 1048576: true; the input reads as it did. -/
def shapeProductUptoRow : OpenClaim := { program := "ytanghkleojjplaa", sum := "a6f0c2def9c523a666e19d196887b31e8022925a4e1d96d3918a2d1c4be91ae0", func := "mandrel/mandrellaw03.ShapeProduct", spec := "shapeProduct", unfollowed := true, recurses := true, apart := false, narrowed := true }
def ShapeProductUptoSaid : Prop := shapeProductUptoRow.holds Try.pinned (OpenSpec.upto shapeProductSpec)

/-- 'mandrellaw03.ShapeSteps', WHERE WHAT IT READS IS OF BULK AT MOST 1048576: true; the input reads as it did. -/
def shapeStepsUptoRow : OpenClaim := { program := "ytanghkleojjplaa", sum := "a6f0c2def9c523a666e19d196887b31e8022925a4e1d96d3918a2d1c4be91ae0", func := "mandrel/mandrellaw03.ShapeSteps", spec := "shapeSteps", unfollowed := true, recurses := true, apart := false, narrowed := true }
def ShapeStepsUptoSaid : Prop := shapeStepsUptoRow.holds Try.pinned (OpenSpec.upto shapeStepsSpec)

end Rows
end Go.Proofs.Ytanghkleojjplaa
