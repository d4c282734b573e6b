/-
  Closed facts about what EndtxNil reaches.
-/
import Derived.Test.YtlacidogpdbpgaaGreatRows
import Derived.WalkKit
import Derived.ProofKit
import Derived.OpenShut
namespace Go.Proofs.YtlacidogpdbpgaaGreat.endtxNil
open Go
theorem inPlaceIs : (Rows.endtxNilRow.inPlace == Tryz.pinned.checked.prog.inPlace 7) = true := by kernel_rfl
end Go.Proofs.YtlacidogpdbpgaaGreat.endtxNil
