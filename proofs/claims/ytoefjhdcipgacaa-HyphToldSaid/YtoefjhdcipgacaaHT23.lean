/-
  Part 23 of what the law HyphTold rests on: contracts of the functions that it calls, and plain laws of what they compute.
-/
import Derived.Deep.Strs
import Derived.Test.YtoefjhdcipgacaaHT22
section
namespace Go.Proofs.Ytoefjhdcipgacaa.Op
open Go.RowKit Go.Proofs.YtoefjhdcipgacaaW.PrintWords Go.Proofs.YtoefjhdcipgacaaW.PrintLast Go.Proofs.YtoefjhdcipgacaaW.PrintMore
open Go.Proofs.Ytoefjhdcipgacaa.PA
open Go.Deep (trod_struct3)
theorem wf_u16 {n : Int} (h : (Lit.int .u16 n).wf = true) : 0 ≤ n ∧ n ≤ 65535 := by
  simp [Lit.wf, IntKind.min, IntKind.max, IntKind.signed, IntKind.bits] at h
  exact ⟨by omega, by omega⟩
end Go.Proofs.Ytoefjhdcipgacaa.Op
end
