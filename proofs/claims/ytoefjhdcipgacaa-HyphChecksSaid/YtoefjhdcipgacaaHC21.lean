/-
  Part 21 of what the law HyphChecks rests on: contracts of the functions that it calls, and plain laws of what they compute.
-/
import Derived.Test.YtoefjhdcipgacaaHC11
import Derived.Test.YtoefjhdcipgacaaHC17
section
namespace Go.Proofs.Ytoefjhdcipgacaa.Op
open Go.RowKit Go.Proofs.YtoefjhdcipgacaaW.PrintWords Go.Proofs.YtoefjhdcipgacaaW.PrintLast Go.Proofs.YtoefjhdcipgacaaW.PrintMore
open Go.Proofs.Ytoefjhdcipgacaa.PA
theorem wf_i32 {n : Int} (h : (Lit.int .i32 n).wf = true) : Tr.In32 n := by
  simp [Lit.wf, IntKind.min, IntKind.max, IntKind.signed, IntKind.bits] at h
  exact ⟨by omega, by omega⟩
theorem wf_i64 {n : Int} (h : (Lit.int .i64 n).wf = true) : -9223372036854775808 ≤ n ∧ n ≤ 9223372036854775807 := by
  simp [Lit.wf, IntKind.min, IntKind.max, IntKind.signed, IntKind.bits] at h
  exact ⟨by omega, by omega⟩
end Go.Proofs.Ytoefjhdcipgacaa.Op
end
