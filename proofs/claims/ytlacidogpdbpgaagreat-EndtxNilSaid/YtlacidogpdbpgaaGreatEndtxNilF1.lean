/-
  Closed facts about what EndtxNil reaches.
-/
import Derived.Test.YtlacidogpdbpgaaGreatRows
import Derived.WalkKit
import Derived.ProofKit
import Derived.OpenShut
namespace Go.Proofs.YtlacidogpdbpgaaGreat.endtxNil
open Go
theorem unfollowedIs : (Rows.endtxNilRow.unfollowed == Tryz.pinned.checked.prog.unfollowed 7) = true := by kernel_rfl
theorem recursesIs : (Rows.endtxNilRow.recurses == Tryz.pinned.checked.prog.recurses 7) = true := by kernel_rfl
end Go.Proofs.YtlacidogpdbpgaaGreat.endtxNil
