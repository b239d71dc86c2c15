/- Closed facts of the row. -/
import Derived.Test.YtbeiejanhoiodaaGreatRows
import Derived.ProofKit
namespace Go.Proofs.YtbeiejanhoiodaaGreat
open Go.ChangeShapes Go.WideShapes Go.ChangeAt Go.RowKit
theorem q10 : (Rows.readerLooksRow.inPlace == Tryz.prog.inPlace 3) = true := by kernel_rfl
theorem q11 : (Rows.readerLooksRow.unfollowed == Tryz.prog.unfollowed 3) = true := by kernel_rfl
theorem q12 : (Rows.readerLooksRow.recurses == Tryz.prog.recurses 3) = true := by kernel_rfl
theorem q13 : (Rows.readerLooksRow.named == Tryz.prog.varsNamed 3) = true := by kernel_rfl
theorem looks_closed : joinedFacts Tryz.prog 3 Tryz.f3 Rows.readerLooksSpec Rows.readerLooksRow = true := by
  unfold joinedFacts
  rw [q10, q11, q12, q13]
  kernel_rfl
end Go.Proofs.YtbeiejanhoiodaaGreat
