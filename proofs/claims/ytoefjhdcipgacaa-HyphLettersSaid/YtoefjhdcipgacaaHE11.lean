/-
  Part 11 of what the law HyphLetters rests on: contracts of the functions that it calls, and plain laws of what they compute.
-/
import Derived.Deep.RegionLaw
import Derived.BigRegion
import Derived.StillTailTactics
import Derived.Test.YtoefjhdcipgacaaHE6
import Derived.Test.YtoefjhdcipgacaaHE9
section
namespace Go.Proofs.Ytoefjhdcipgacaa.Sm
open Go.RowKit Go.Proofs.YtoefjhdcipgacaaW.PrintWords Go.Proofs.YtoefjhdcipgacaaW.PrintLast Go.Proofs.YtoefjhdcipgacaaW.PrintMore
open Go.Proofs.Ytoefjhdcipgacaa.PA
open Go.Proofs.Ytoefjhdcipgacaa.Tr (store1 size27)
attribute [local go_sem] max2_int min2_int max_two min_two
def letterOf (r : Int) : Int := ([97, 98, 99, 46] : List Int).getD (r % 4).toNat 0
def lettersTo (fit : Bool) (ls : List Int) (k : Nat) : List Int := (ls.take k).map fun r => if fit then letterOf r else r
end Go.Proofs.Ytoefjhdcipgacaa.Sm
end
