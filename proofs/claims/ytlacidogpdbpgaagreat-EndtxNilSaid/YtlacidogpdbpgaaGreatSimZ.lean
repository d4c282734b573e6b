/-
  Closed facts about the program as a whole, together.
-/
import Derived.Test.YtlacidogpdbpgaaGreatSimZ0
import Derived.Test.YtlacidogpdbpgaaGreatSimZ1
import Derived.Test.YtlacidogpdbpgaaGreatSimZ2
import Derived.Test.YtlacidogpdbpgaaGreatSimZ3
