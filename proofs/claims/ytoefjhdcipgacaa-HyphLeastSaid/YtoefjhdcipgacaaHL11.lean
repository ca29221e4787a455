/-
  Part 11 of what the law HyphLeast rests on: contracts of the functions that it calls, and plain laws of what they compute.
-/
import Derived.Deep.RegionLaw
import Derived.BigRegion
import Derived.StillTailTactics
import Derived.Test.YtoefjhdcipgacaaHL6
import Derived.Test.YtoefjhdcipgacaaHL9
