/-
  Closed facts about what EndtxNil reaches.
-/
import Derived.Test.YtlacidogpdbpgaaGreatRows
import Derived.WalkKit
import Derived.ProofKit
import Derived.OpenShut
namespace Go.Proofs.YtlacidogpdbpgaaGreat.endtxNil
open Go
theorem namedIs : (Rows.endtxNilRow.named == Tryz.pinned.checked.prog.varsNamed 7) = true := by kernel_rfl
end Go.Proofs.YtlacidogpdbpgaaGreat.endtxNil
