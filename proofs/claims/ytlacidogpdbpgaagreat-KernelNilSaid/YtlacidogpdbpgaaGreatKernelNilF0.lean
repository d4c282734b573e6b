/-
  Closed facts about what KernelNil reaches.
-/
import Derived.Test.YtlacidogpdbpgaaGreatRows
import Derived.WalkKit
import Derived.ProofKit
import Derived.OpenShut
namespace Go.Proofs.YtlacidogpdbpgaaGreat.kernelNil
open Go
theorem inPlaceIs : (Rows.kernelNilRow.inPlace == Tryz.pinned.checked.prog.inPlace 22) = true := by kernel_rfl
end Go.Proofs.YtlacidogpdbpgaaGreat.kernelNil
