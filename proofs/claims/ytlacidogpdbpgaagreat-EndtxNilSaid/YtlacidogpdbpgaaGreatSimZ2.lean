/-
  Closed facts about the program as a whole, one by one (together they pass the kernel's memory).
-/
import Derived.Test.YtlacidogpdbpgaaGreatRows
import Derived.WalkKit
import Derived.ProofKit
import Derived.OpenShut
namespace Go.Proofs.YtlacidogpdbpgaaGreat.Whole
open Go
theorem plain : Tryz.pinned.checked.prog.plainKeys = false := by kernel_rfl
theorem heard : Tryz.pinned.checked.prog.stopsHeard = true := by kernel_rfl
end Go.Proofs.YtlacidogpdbpgaaGreat.Whole
