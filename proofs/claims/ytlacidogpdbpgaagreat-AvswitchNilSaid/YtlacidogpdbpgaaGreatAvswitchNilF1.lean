/-
  Closed facts about what AvswitchNil reaches.
-/
import Derived.Test.YtlacidogpdbpgaaGreatRows
import Derived.WalkKit
import Derived.ProofKit
import Derived.OpenShut
namespace Go.Proofs.YtlacidogpdbpgaaGreat.avswitchNil
open Go
theorem unfollowedIs : (Rows.avswitchNilRow.unfollowed == Tryz.pinned.checked.prog.unfollowed 3) = true := by kernel_rfl
theorem recursesIs : (Rows.avswitchNilRow.recurses == Tryz.pinned.checked.prog.recurses 3) = true := by kernel_rfl
end Go.Proofs.YtlacidogpdbpgaaGreat.avswitchNil
