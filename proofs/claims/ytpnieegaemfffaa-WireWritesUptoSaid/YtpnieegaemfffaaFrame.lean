/- What the rows of this seat share. -/
import Derived.Test.YtpnieegaemfffaaMf
import Derived.ProofKit
import Derived.OpenShut
import Derived.ShutString
import Derived.ChangeOld
import Derived.SizedLaws
namespace Go.Proofs.Ytpnieegaemfffaa
open Go.ChangeShapes Go.WideShapes Go.ChangeAt Go.RowKit

theorem Try.own : ownKnob Try.prog.godebug = none := by kernel_rfl
theorem Try.laidOut : laidOutB Try.prog = true := by kernel_rfl
theorem wf_u64 {k : Int} (h : (Lit.int .u64 k).wf = true) : 0 ≤ k ∧ k < B64 := by
  unfold B64
  simp [Lit.wf] at h
  have h1 : IntKind.u64.min = 0 := by decide
  have h2 : IntKind.u64.max = 18446744073709551615 := by decide
  omega
end Go.Proofs.Ytpnieegaemfffaa
