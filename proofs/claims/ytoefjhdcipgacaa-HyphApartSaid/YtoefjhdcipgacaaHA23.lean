/-
  Part 23 of what the law HyphApart rests on: contracts of the functions that it calls, and plain laws of what they compute.
-/
import Derived.Deep.Strs
import Derived.Test.YtoefjhdcipgacaaHA22
section
namespace Go.Proofs.Ytoefjhdcipgacaa.Op
open Go.RowKit Go.Proofs.YtoefjhdcipgacaaW.PrintWords Go.Proofs.YtoefjhdcipgacaaW.PrintLast Go.Proofs.YtoefjhdcipgacaaW.PrintMore
open Go.Proofs.Ytoefjhdcipgacaa.PA
open Go.Deep (trod_struct3)
theorem opens58 : Opens Try.prog 58 (Kd.slice 4 Kd.bool) (fun _ => True) := (Opens.slice Try.underlying58 (by kernel_rfl) (Opens.bool Try.underlying4)).imp fun _ _ => trivial
theorem opens61 : Opens Try.prog 61 (Kd.slice 23 (Kd.slice 21 (Kd.int .i32))) (fun ll => ∀ l ∈ ll, ∀ r ∈ l, Tr.In32 r) :=
  (Opens.slice Try.underlying61 (by kernel_rfl) opens23).imp fun _ h x hx => h.1 x hx
end Go.Proofs.Ytoefjhdcipgacaa.Op
end
