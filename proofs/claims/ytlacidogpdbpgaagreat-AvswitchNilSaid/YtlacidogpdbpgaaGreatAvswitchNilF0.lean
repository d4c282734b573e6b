/-
  Closed facts about what AvswitchNil reaches.
-/
import Derived.Test.YtlacidogpdbpgaaGreatRows
import Derived.WalkKit
import Derived.ProofKit
import Derived.OpenShut
namespace Go.Proofs.YtlacidogpdbpgaaGreat.avswitchNil
open Go
theorem inPlaceIs : (Rows.avswitchNilRow.inPlace == Tryz.pinned.checked.prog.inPlace 3) = true := by kernel_rfl
end Go.Proofs.YtlacidogpdbpgaaGreat.avswitchNil
