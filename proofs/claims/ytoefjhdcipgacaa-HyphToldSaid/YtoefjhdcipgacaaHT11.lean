/-
  Part 11 of what the law HyphTold rests on: contracts of the functions that it calls, and plain laws of what they compute.
-/
import Derived.Deep.RegionLaw
import Derived.BigRegion
import Derived.StillTailTactics
import Derived.Test.YtoefjhdcipgacaaHT6
import Derived.Test.YtoefjhdcipgacaaHT9
