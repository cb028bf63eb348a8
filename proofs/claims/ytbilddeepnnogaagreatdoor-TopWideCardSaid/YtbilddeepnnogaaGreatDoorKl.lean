import Derived.Test.YtbilddeepnnogaaGreatDoorRows
import Derived.JoinedOf
import Derived.ProofKit
import Derived.SevenTiedAt
set_option linter.unusedVariables false
set_option linter.unusedSimpArgs false
/- The closed facts of TopWide's row, each by itself: one reckoning of them all has no room. -/
namespace Go.Proofs.YtbilddeepnnogaaGreatDoor
set_option maxRecDepth 100000
theorem fc_inPlace : (Rows.topWideRow.inPlace == Tryz.prog.inPlace 3) = true := by kernel_rfl
theorem fc_unf : (Rows.topWideRow.unfollowed == Tryz.prog.unfollowed 3) = true := by kernel_rfl
theorem fc_rec : (Rows.topWideRow.recurses == Tryz.prog.recurses 3) = true := by kernel_rfl
theorem fc_named : (Rows.topWideRow.named == Tryz.prog.varsNamed 3) = true := by kernel_rfl
theorem closed : joinedFacts Tryz.prog 3 Tryz.f3 Rows.topWideSpec Rows.topWideRow = true := by
  unfold joinedFacts
  rw [fc_inPlace, fc_unf, fc_rec, fc_named]
  kernel_rfl
theorem mainIs : Tryz.prog.mainIs = some (true, "f8f1a3f33f1683e0a4a87a34f269de2dd5878b17edd1cdc412db4e2cce541776".toList) := by kernel_rfl
theorem looks : true = Tryz.prog.looks [] := by kernel_rfl
end Go.Proofs.YtbilddeepnnogaaGreatDoor
