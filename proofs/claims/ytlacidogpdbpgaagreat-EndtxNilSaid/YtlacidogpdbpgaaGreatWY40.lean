/-
  The sender's examples: a closed run.
-/
import Derived.Test.YtlacidogpdbpgaaGreatWY
namespace Go.Sim
open Go
set_option maxRecDepth 100000
theorem awake40 (w : World) : isTrueG (gFn PG prRun w 100000 100 40 [] ⟨0, .leaf⟩) = true := by kernel_rfl
end Go.Sim
