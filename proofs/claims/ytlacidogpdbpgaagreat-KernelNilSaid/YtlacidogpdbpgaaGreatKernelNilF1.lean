/-
  Closed facts about what KernelNil reaches.
-/
import Derived.Test.YtlacidogpdbpgaaGreatRows
import Derived.WalkKit
import Derived.ProofKit
import Derived.OpenShut
namespace Go.Proofs.YtlacidogpdbpgaaGreat.kernelNil
open Go
theorem unfollowedIs : (Rows.kernelNilRow.unfollowed == Tryz.pinned.checked.prog.unfollowed 22) = true := by kernel_rfl
theorem recursesIs : (Rows.kernelNilRow.recurses == Tryz.pinned.checked.prog.recurses 22) = true := by kernel_rfl
end Go.Proofs.YtlacidogpdbpgaaGreat.kernelNil
