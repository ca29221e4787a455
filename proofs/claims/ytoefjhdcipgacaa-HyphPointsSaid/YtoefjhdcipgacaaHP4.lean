/-
 Part 4 of what the law HyphPoints rests on: contracts of the functions that it calls, and plain laws of what they compute.
-/
import Derived.Laws.StructEq
import Derived.Test.YtoefjhdcipgacaaHP3
