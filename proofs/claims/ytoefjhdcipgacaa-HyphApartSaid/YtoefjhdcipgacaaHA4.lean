/-
  Part 4 of what the law HyphApart rests on: contracts of the functions that it calls, and plain laws of what they compute.
-/
import Derived.Laws.StructEq
import Derived.Test.YtoefjhdcipgacaaHA3
