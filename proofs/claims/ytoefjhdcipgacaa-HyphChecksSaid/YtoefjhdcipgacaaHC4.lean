/-
  Part 4 of what the law HyphChecks rests on: contracts of the functions that it calls, and plain laws of what they compute.
-/
import Derived.Laws.StructEq
import Derived.Test.YtoefjhdcipgacaaHC3
