/-
 Part 21 of what the law HyphPoints rests on: contracts of the functions that it calls, and plain laws of what they compute.
-/
import Derived.Test.YtoefjhdcipgacaaHP11
import Derived.Test.YtoefjhdcipgacaaHP17
section
namespace Go.Proofs.Ytoefjhdcipgacaa.Op
open Go.RowKit Go.Proofs.YtoefjhdcipgacaaW.PrintWords Go.Proofs.YtoefjhdcipgacaaW.PrintLast Go.Proofs.YtoefjhdcipgacaaW.PrintMore
open Go.Proofs.Ytoefjhdcipgacaa.PA
theorem wf_i32 {n : Int} (h : (Lit.int .i32 n).wf = true) : Tr.In32 n := by
 simp [Lit.wf, IntKind.min, IntKind.max, IntKind.signed, IntKind.bits] at h
 exact ⟨by omega, by omega⟩
theorem wf_u8 {n : Int} (h : (Lit.int .u8 n).wf = true) : 0 ≤ n ∧ n ≤ 255 := by
 simp [Lit.wf, IntKind.min, IntKind.max, IntKind.signed, IntKind.bits] at h
 exact ⟨by omega, by omega⟩
theorem wf_i64 {n : Int} (h : (Lit.int .i64 n).wf = true) : -9223372036854775808 ≤ n ∧ n ≤ 9223372036854775807 := by
 simp [Lit.wf, IntKind.min, IntKind.max, IntKind.signed, IntKind.bits] at h
 exact ⟨by omega, by omega⟩
theorem opens23 : Opens Try.prog 23 (Kd.slice 21 (Kd.int .i32)) (fun ls => ∀ r ∈ ls, Tr.In32 r) :=
 (Opens.slice Try.underlying23 (by kernel_rfl) (Opens.int Try.underlying21)).imp fun _ h r hr => wf_i32 (h.1 r hr)
theorem opens27 : Opens Try.prog 27 (Kd.slice 5 (Kd.int .u8)) (fun ls => ∀ r ∈ ls, 0 ≤ r ∧ r ≤ 255) :=
 (Opens.slice Try.underlying27 (by kernel_rfl) (Opens.int Try.underlying5)).imp fun _ h r hr => wf_u8 (h.1 r hr)
end Go.Proofs.Ytoefjhdcipgacaa.Op
end
