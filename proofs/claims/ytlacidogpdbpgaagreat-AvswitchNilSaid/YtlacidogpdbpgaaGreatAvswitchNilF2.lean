/-
  Closed facts about what AvswitchNil reaches.
-/
import Derived.Test.YtlacidogpdbpgaaGreatRows
import Derived.WalkKit
import Derived.ProofKit
import Derived.OpenShut
namespace Go.Proofs.YtlacidogpdbpgaaGreat.avswitchNil
open Go
theorem namedIs : (Rows.avswitchNilRow.named == Tryz.pinned.checked.prog.varsNamed 3) = true := by kernel_rfl
end Go.Proofs.YtlacidogpdbpgaaGreat.avswitchNil
