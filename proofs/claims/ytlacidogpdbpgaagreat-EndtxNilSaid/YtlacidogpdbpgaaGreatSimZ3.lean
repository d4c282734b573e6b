/-
  Closed facts about the program as a whole, one by one (together they pass the kernel's memory).
-/
import Derived.Test.YtlacidogpdbpgaaGreatRows
import Derived.WalkKit
import Derived.ProofKit
import Derived.OpenShut
namespace Go.Proofs.YtlacidogpdbpgaaGreat.Whole
open Go
theorem made : (Tryz.pinned.checked.prog.make == some Rows.kernelNilRow.make) = true := by kernel_rfl
theorem lifts : (Rows.kernelNilRow.lifted == Tryz.pinned.checked.prog.liftsFinal) = true := by kernel_rfl
end Go.Proofs.YtlacidogpdbpgaaGreat.Whole
