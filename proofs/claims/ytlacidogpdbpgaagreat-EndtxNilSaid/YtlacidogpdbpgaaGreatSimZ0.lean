/-
  Closed facts about the program as a whole, one by one (together they pass the kernel's memory).
-/
import Derived.Test.YtlacidogpdbpgaaGreatRows
import Derived.WalkKit
import Derived.ProofKit
import Derived.OpenShut
namespace Go.Proofs.YtlacidogpdbpgaaGreat.Whole
open Go
theorem laid : laidOutB Tryz.pinned.checked.prog = true := by kernel_rfl
theorem rowed : mapsRowed Tryz.pinned.checked.prog = true := by kernel_rfl
end Go.Proofs.YtlacidogpdbpgaaGreat.Whole
