/-
  What the arguments of the rows read: patterns, letters, values, numbers.
-/
import Derived.Test.YtoefjhdcipgacaaOpen
import Derived.Test.YtoefjhdcipgacaaTrieFit
namespace Go.Proofs.Ytoefjhdcipgacaa.Op
open Go.RowKit Go.Proofs.YtoefjhdcipgacaaW.PrintWords Go.Proofs.YtoefjhdcipgacaaW.PrintLast Go.Proofs.YtoefjhdcipgacaaW.PrintMore
open Go.Proofs.Ytoefjhdcipgacaa.PA
theorem wf_i32 {n : Int} (h : (Lit.int .i32 n).wf = true) : Tr.In32 n := by
  simp [Lit.wf, IntKind.min, IntKind.max, IntKind.signed, IntKind.bits] at h
  exact ⟨by omega, by omega⟩
theorem wf_u8 {n : Int} (h : (Lit.int .u8 n).wf = true) : 0 ≤ n ∧ n ≤ 255 := by
  simp [Lit.wf, IntKind.min, IntKind.max, IntKind.signed, IntKind.bits] at h
  exact ⟨by omega, by omega⟩
theorem wf_i64 {n : Int} (h : (Lit.int .i64 n).wf = true) : -9223372036854775808 ≤ n ∧ n ≤ 9223372036854775807 := by
  simp [Lit.wf, IntKind.min, IntKind.max, IntKind.signed, IntKind.bits] at h
  exact ⟨by omega, by omega⟩
theorem opens23 : Opens Try.prog 23 (Kd.slice 21 (Kd.int .i32)) (fun ls => ∀ r ∈ ls, Tr.In32 r) :=
  (Opens.slice Try.underlying23 (by kernel_rfl) (Opens.int Try.underlying21)).imp fun _ h r hr => wf_i32 (h.1 r hr)
theorem opens27 : Opens Try.prog 27 (Kd.slice 5 (Kd.int .u8)) (fun ls => ∀ r ∈ ls, 0 ≤ r ∧ r ≤ 255) :=
  (Opens.slice Try.underlying27 (by kernel_rfl) (Opens.int Try.underlying5)).imp fun _ h r hr => wf_u8 (h.1 r hr)
theorem opens36 : Opens Try.prog 36 (Kd.slice 3 (Kd.int .i64)) (fun ls => ∀ r ∈ ls, -9223372036854775808 ≤ r ∧ r ≤ 9223372036854775807) :=
  (Opens.slice Try.underlying36 (by kernel_rfl) (Opens.int Try.underlying3)).imp fun _ h r hr => wf_i64 (h.1 r hr)
theorem opens39 : Opens Try.prog 39 k39 (fun p => (∀ r ∈ p.f0, Tr.In32 r) ∧ ∀ x ∈ p.f1, 0 ≤ x ∧ x ≤ 255) :=
  (Opens.pair Try.underlying39 rfl rfl (by kernel_rfl) (by kernel_rfl) (by kernel_rfl) opens23 opens27).iso (fun x : S39 => (x.f0, x.f1)) (fun x => ⟨x.1, x.2⟩) (fun _ => rfl)
theorem opens22 : Opens Try.prog 22 (Kd.slice 39 k39) Tr.Pats :=
  (Opens.slice Try.underlying22 (by kernel_rfl) opens39).imp fun _ h p hp => ⟨(h.1 p hp).1, fun x hx => ((h.1 p hp).2 x hx).1⟩
end Go.Proofs.Ytoefjhdcipgacaa.Op
