/-
  No cell of these rows narrows 'for every input' (looked for: loops, veiled, ifaces, maps, wideKeys, modest, calm, conditions, laid).
  DERIVED. THE GIVEN ROWS OF THIS SEAT. 6 by the template 'for every input the law returns true; each argument reads behind the call as it read before'; 0 by the template 'total and deterministic' (their statements: YtpnieegaemfffaaTotals.lean).
  GIVEN WITH THE SEED: the statements are not yours to turn. If you find one false, say at which input.
  Laid BY PROGRAM, IN A SANDBOX (cutbox-rows.mjs): the forced cells as the released guide's own fill.sh prints them over the translation f7c55470cc64dee5… (all of the seat's roots in one cut). By AI agents, Wed Nov 11 2026. No macro, syntax, notation, axiom, sorry.
-/
import Derived.Test.YtpnieegaemfffaaChecked
import GoSem.Claim
import GoSem.ClaimJoined
import GoSem.ClaimMapViews
import Derived.JoinedTies
import Derived.KernelRfl
namespace Go.Proofs.Ytpnieegaemfffaa
/- THE CELL 'sum', in the pinned program and in every row, IS THE sha256 OF THE DUMP (.gsa) THAT YtpnieegaemfffaaProg.lean LOADS. Nothing in Lean hashes anything: it is a label: what it is worth is what the hold of that sum in a sandbox is worth. -/
noncomputable def Try.pinned : Pinned := { name := "ytpnieegaemfffaa", sum := "f7c55470cc64dee59ecb4f6d562a2a26abec91acaba10274dcb7cf48445247f4", checked := Try.checked }
namespace Rows
def none {H : Type} : Left H := { results := [], args := [] }

/-- 'mandrellaw01.WireNumbers': WHATEVER THE INPUT: true; the input reads as it did. -/
def wireNumbersSpec : ChangeSpec := { name := "wireNumbers", fn := fun _ => fun
  | [d1, d2, d3] => { results := [.lit (.bool true)], args := [d1, d2, d3] }
  | _ => none }
def wireNumbersRow : OpenClaim := { program := "ytpnieegaemfffaa", sum := "f7c55470cc64dee59ecb4f6d562a2a26abec91acaba10274dcb7cf48445247f4", func := "mandrel/mandrellaw01.WireNumbers", spec := "wireNumbers", unfollowed := true, recurses := true, apart := false }
def WireNumbersSaid : Prop := wireNumbersRow.holds Try.pinned (OpenSpec.ofChange wireNumbersSpec)

/-- ITS FALSE NEIGHBOUR: 'it returns false'. Refute it at one input. -/
def wireNumbersWrong : ChangeSpec := { name := "wireNumbers", fn := fun _ => fun
  | [d1, d2, d3] => { results := [.lit (.bool false)], args := [d1, d2, d3] }
  | _ => none }
def WireNumbersWrongFalsely : Prop := wireNumbersRow.holds Try.pinned (OpenSpec.ofChange wireNumbersWrong)

/-- 'mandrellaw01.WireJoined': WHATEVER THE INPUT: true; the input reads as it did. -/
def wireJoinedSpec : ChangeSpec := { name := "wireJoined", fn := fun _ => fun
  | [d1, d2] => { results := [.lit (.bool true)], args := [d1, d2] }
  | _ => none }
def wireJoinedRow : OpenClaim := { program := "ytpnieegaemfffaa", sum := "f7c55470cc64dee59ecb4f6d562a2a26abec91acaba10274dcb7cf48445247f4", func := "mandrel/mandrellaw01.WireJoined", spec := "wireJoined", unfollowed := true, recurses := true, apart := false }
def WireJoinedSaid : Prop := wireJoinedRow.holds Try.pinned (OpenSpec.ofChange wireJoinedSpec)

/-- ITS FALSE NEIGHBOUR: 'it returns false'. Refute it at one input. -/
def wireJoinedWrong : ChangeSpec := { name := "wireJoined", fn := fun _ => fun
  | [d1, d2] => { results := [.lit (.bool false)], args := [d1, d2] }
  | _ => none }
def WireJoinedWrongFalsely : Prop := wireJoinedRow.holds Try.pinned (OpenSpec.ofChange wireJoinedWrong)

/-- 'mandrellaw01.WireFields': WHATEVER THE INPUT: true; the input reads as it did. -/
def wireFieldsSpec : ChangeSpec := { name := "wireFields", fn := fun _ => fun
  | [d] => { results := [.lit (.bool true)], args := [d] }
  | _ => none }
def wireFieldsRow : OpenClaim := { program := "ytpnieegaemfffaa", sum := "f7c55470cc64dee59ecb4f6d562a2a26abec91acaba10274dcb7cf48445247f4", func := "mandrel/mandrellaw01.WireFields", spec := "wireFields", unfollowed := true, recurses := true, apart := false }
def WireFieldsSaid : Prop := wireFieldsRow.holds Try.pinned (OpenSpec.ofChange wireFieldsSpec)

/-- ITS FALSE NEIGHBOUR: 'it returns false'. Refute it at one input. -/
def wireFieldsWrong : ChangeSpec := { name := "wireFields", fn := fun _ => fun
  | [d] => { results := [.lit (.bool false)], args := [d] }
  | _ => none }
def WireFieldsWrongFalsely : Prop := wireFieldsRow.holds Try.pinned (OpenSpec.ofChange wireFieldsWrong)

/-- 'mandrellaw01.WireWrites': WHATEVER THE INPUT: true; the input reads as it did. -/
def wireWritesSpec : ChangeSpec := { name := "wireWrites", fn := fun _ => fun
  | [d] => { results := [.lit (.bool true)], args := [d] }
  | _ => none }
def wireWritesRow : OpenClaim := { program := "ytpnieegaemfffaa", sum := "f7c55470cc64dee59ecb4f6d562a2a26abec91acaba10274dcb7cf48445247f4", func := "mandrel/mandrellaw01.WireWrites", spec := "wireWrites", unfollowed := true, recurses := true, apart := false }
def WireWritesSaid : Prop := wireWritesRow.holds Try.pinned (OpenSpec.ofChange wireWritesSpec)

/-- ITS FALSE NEIGHBOUR: 'it returns false'. Refute it at one input. -/
def wireWritesWrong : ChangeSpec := { name := "wireWrites", fn := fun _ => fun
  | [d] => { results := [.lit (.bool false)], args := [d] }
  | _ => none }
def WireWritesWrongFalsely : Prop := wireWritesRow.holds Try.pinned (OpenSpec.ofChange wireWritesWrong)

/-- 'mandrellaw01.WireBack': WHATEVER THE INPUT: true; the input reads as it did. -/
def wireBackSpec : ChangeSpec := { name := "wireBack", fn := fun _ => fun
  | [d] => { results := [.lit (.bool true)], args := [d] }
  | _ => none }
def wireBackRow : OpenClaim := { program := "ytpnieegaemfffaa", sum := "f7c55470cc64dee59ecb4f6d562a2a26abec91acaba10274dcb7cf48445247f4", func := "mandrel/mandrellaw01.WireBack", spec := "wireBack", unfollowed := true, recurses := true, apart := false }
def WireBackSaid : Prop := wireBackRow.holds Try.pinned (OpenSpec.ofChange wireBackSpec)

/-- ITS FALSE NEIGHBOUR: 'it returns false'. Refute it at one input. -/
def wireBackWrong : ChangeSpec := { name := "wireBack", fn := fun _ => fun
  | [d] => { results := [.lit (.bool false)], args := [d] }
  | _ => none }
def WireBackWrongFalsely : Prop := wireBackRow.holds Try.pinned (OpenSpec.ofChange wireBackWrong)

/-- 'mandrellaw01.WireAgain': WHATEVER THE INPUT: true; the input reads as it did. -/
def wireAgainSpec : ChangeSpec := { name := "wireAgain", fn := fun _ => fun
  | [d] => { results := [.lit (.bool true)], args := [d] }
  | _ => none }
def wireAgainRow : OpenClaim := { program := "ytpnieegaemfffaa", sum := "f7c55470cc64dee59ecb4f6d562a2a26abec91acaba10274dcb7cf48445247f4", func := "mandrel/mandrellaw01.WireAgain", spec := "wireAgain", unfollowed := true, recurses := true, apart := false }
def WireAgainSaid : Prop := wireAgainRow.holds Try.pinned (OpenSpec.ofChange wireAgainSpec)

/-- ITS FALSE NEIGHBOUR: 'it returns false'. Refute it at one input. -/
def wireAgainWrong : ChangeSpec := { name := "wireAgain", fn := fun _ => fun
  | [d] => { results := [.lit (.bool false)], args := [d] }
  | _ => none }
def WireAgainWrongFalsely : Prop := wireAgainRow.holds Try.pinned (OpenSpec.ofChange wireAgainWrong)

/- THE SECOND FORM. 'bulk': how many values and letters a reading holds, each counted each time it is reached (what is shared counts as often as it is met; a slice's spare places count too). A statement '..UptoSaid' is the law's where the arguments, and the package variables that the reading takes, are together of bulk at most 1048576: NARROWER than '..Said'. Prove '..Said' where nothing that the law and all that it calls make is longer than what came in: it says more and counts as full. Else prove '..UptoSaid'. A law counts once. -/
mutual
def uptoBulk {H : Type} : DataW H → Nat
  | .lit (.string bytes) => bytes.length + 1
  | .lit _ => 1
  | .nil => 1
  | .ptr d => uptoBulk d + 1
  | .slice elems spare => uptoBulkAll elems + uptoBulkAll spare + 1
  | .agg parts => uptoBulkAll parts + 1
  | .iface _ d => uptoBulk d + 1
  | .map entries => uptoBulkEntries entries + 1
  | .held _ => 1
def uptoBulkAll {H : Type} : List (DataW H) → Nat
  | [] => 0
  | d :: r => uptoBulk d + uptoBulkAll r
def uptoBulkEntries {H : Type} : List (Lit × DataW H) → Nat
  | [] => 0
  | x :: r => uptoBulkEntry x + uptoBulkEntries r
def uptoBulkEntry {H : Type} : Lit × DataW H → Nat
  | (.string bytes, d) => bytes.length + uptoBulk d + 1
  | (_, d) => uptoBulk d + 1
 end
def uptoSmall : (H : Type) → List (DataW H) → Bool := fun _ ds => decide (uptoBulkAll ds ≤ 1048576)
def OpenSpec.upto (s : _root_.Go.ChangeSpec) : _root_.Go.OpenSpec := { _root_.Go.OpenSpec.ofChange s with cond := some uptoSmall }

/-- 'mandrellaw01.WireNumbers', WHERE WHAT IT READS IS OF BULK AT MOST 1048576: true; the input reads as it did. -/
def wireNumbersUptoRow : OpenClaim := { program := "ytpnieegaemfffaa", sum := "f7c55470cc64dee59ecb4f6d562a2a26abec91acaba10274dcb7cf48445247f4", func := "mandrel/mandrellaw01.WireNumbers", spec := "wireNumbers", unfollowed := true, recurses := true, apart := false, narrowed := true }
def WireNumbersUptoSaid : Prop := wireNumbersUptoRow.holds Try.pinned (OpenSpec.upto wireNumbersSpec)

/-- 'mandrellaw01.WireJoined', WHERE WHAT IT READS IS OF BULK AT MOST 1048576: true; the input reads as it did. -/
def wireJoinedUptoRow : OpenClaim := { program := "ytpnieegaemfffaa", sum := "f7c55470cc64dee59ecb4f6d562a2a26abec91acaba10274dcb7cf48445247f4", func := "mandrel/mandrellaw01.WireJoined", spec := "wireJoined", unfollowed := true, recurses := true, apart := false, narrowed := true }
def WireJoinedUptoSaid : Prop := wireJoinedUptoRow.holds Try.pinned (OpenSpec.upto wireJoinedSpec)

/-- 'mandrellaw01.WireFields', WHERE WHAT IT READS IS OF BULK AT MOST 1048576: true; the input reads as it did. -/
def wireFieldsUptoRow : OpenClaim := { program := "ytpnieegaemfffaa", sum := "f7c55470cc64dee59ecb4f6d562a2a26abec91acaba10274dcb7cf48445247f4", func := "mandrel/mandrellaw01.WireFields", spec := "wireFields", unfollowed := true, recurses := true, apart := false, narrowed := true }
def WireFieldsUptoSaid : Prop := wireFieldsUptoRow.holds Try.pinned (OpenSpec.upto wireFieldsSpec)

/-- 'mandrellaw01.WireWrites', WHERE WHAT IT READS IS OF BULK AT MOST 1048576: true; the input reads as it did. -/
def wireWritesUptoRow : OpenClaim := { program := "ytpnieegaemfffaa", sum := "f7c55470cc64dee59ecb4f6d562a2a26abec91acaba10274dcb7cf48445247f4", func := "mandrel/mandrellaw01.WireWrites", spec := "wireWrites", unfollowed := true, recurses := true, apart := false, narrowed := true }
def WireWritesUptoSaid : Prop := wireWritesUptoRow.holds Try.pinned (OpenSpec.upto wireWritesSpec)

/-- 'mandrellaw01.WireBack', WHERE WHAT IT READS IS OF BULK AT MOST 1048576: true; the input reads as it did. -/
def wireBackUptoRow : OpenClaim := { program := "ytpnieegaemfffaa", sum := "f7c55470cc64dee59ecb4f6d562a2a26abec91acaba10274dcb7cf48445247f4", func := "mandrel/mandrellaw01.WireBack", spec := "wireBack", unfollowed := true, recurses := true, apart := false, narrowed := true }
def WireBackUptoSaid : Prop := wireBackUptoRow.holds Try.pinned (OpenSpec.upto wireBackSpec)

/-- 'mandrellaw01.WireAgain', WHERE WHAT IT READS IS OF BULK AT MOST 1048576: true; the input reads as it did. -/
def wireAgainUptoRow : OpenClaim := { program := "ytpnieegaemfffaa", sum := "f7c55470cc64dee59ecb4f6d562a2a26abec91acaba10274dcb7cf48445247f4", func := "mandrel/mandrellaw01.WireAgain", spec := "wireAgain", unfollowed := true, recurses := true, apart := false, narrowed := true }
def WireAgainUptoSaid : Prop := wireAgainUptoRow.holds Try.pinned (OpenSpec.upto wireAgainSpec)

end Rows
end Go.Proofs.Ytpnieegaemfffaa
