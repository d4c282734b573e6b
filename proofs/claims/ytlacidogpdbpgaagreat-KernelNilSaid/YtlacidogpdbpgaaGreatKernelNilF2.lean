/-
  Closed facts about what KernelNil reaches.
-/
import Derived.Test.YtlacidogpdbpgaaGreatRows
import Derived.WalkKit
import Derived.ProofKit
import Derived.OpenShut
namespace Go.Proofs.YtlacidogpdbpgaaGreat.kernelNil
open Go
theorem namedIs : (Rows.kernelNilRow.named == Tryz.pinned.checked.prog.varsNamed 22) = true := by kernel_rfl
end Go.Proofs.YtlacidogpdbpgaaGreat.kernelNil
