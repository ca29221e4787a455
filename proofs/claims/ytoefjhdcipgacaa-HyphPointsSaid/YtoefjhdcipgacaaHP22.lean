/-
 Part 22 of what the law HyphPoints rests on: contracts of the functions that it calls, and plain laws of what they compute.
-/
import Derived.Deep.Strs
import Derived.Test.YtoefjhdcipgacaaHP21
section
namespace Go.Proofs.Ytoefjhdcipgacaa.Op
open Go.RowKit Go.Proofs.YtoefjhdcipgacaaW.PrintWords Go.Proofs.YtoefjhdcipgacaaW.PrintLast Go.Proofs.YtoefjhdcipgacaaW.PrintMore
open Go.Proofs.Ytoefjhdcipgacaa.PA
open Go.Deep (trod_struct3)
theorem Opens.triple {P : Program} {t : TypeId} {f0 f1 f2 : Field} {α β γ : Type} {d0 : Kd α} {d1 : Kd β} {d2 : Kd γ} {Q0 : α → Prop} {Q1 : β → Prop} {Q2 : γ → Prop} (h : P.underlying t = some (.struct #[f0, f1, f2]))
  (o0 : f0.offset = 0) (o1 : f1.offset = d0.sz) (o2 : f2.offset = d0.sz + d1.sz) (c0 : P.cellsOf f0.type = d0.sz) (c1 : P.cellsOf f1.type = d1.sz) (c2 : P.cellsOf f2.type = d2.sz) (ct : P.cellsOf t = d0.sz + d1.sz + d2.sz) (h0 : Opens P f0.type d0 Q0) (h1 : Opens P f1.type d1 Q1) (h2 : Opens P f2.type d2 Q2) :
  Opens P t (Kd.pair d0 (Kd.pair d1 d2)) (fun x => Q0 x.1 ∧ Q1 x.2.1 ∧ Q2 x.2.2) := by
 intro H enc W base sp held fuel cs x hx
 obtain ⟨y0, y1, y2, n, _, hl, g0, g1, g2⟩ := trod_struct3 h hx
 obtain ⟨a, ha, qa⟩ := h0 _ _ _ _ _ _ _ _ _ g0
 obtain ⟨b, hb, qb⟩ := h1 _ _ _ _ _ _ _ _ _ g1
 obtain ⟨c, hc, qc⟩ := h2 _ _ _ _ _ _ _ _ _ g2
 refine ⟨(a, b, c), ⟨_, _, ?_, ha, ⟨_, _, rfl, hb, hc⟩⟩, qa, qb, qc⟩
 rw [o0, o1, o2, c0, c1, c2, List.drop_zero, List.take_of_length_le (l := cs.drop (d0.sz + d1.sz)) (by rw [List.length_drop]; omega), ← List.drop_drop, List.take_append_drop, List.take_append_drop]
theorem opens63 : Opens Try.prog 63 k63 (fun x => Tr.In32 x.f0 ∧ Tr.In32 x.f1 ∧ -9223372036854775808 ≤ x.f2 ∧ x.f2 ≤ 9223372036854775807) :=
 (((Opens.triple Try.underlying63 rfl rfl rfl (by kernel_rfl) (by kernel_rfl) (by kernel_rfl) (by kernel_rfl) (Opens.int Try.underlying21) (Opens.int Try.underlying21) (Opens.int Try.underlying3))).iso (fun x : S63 => (x.f0, x.f1, x.f2)) (fun x => ⟨x.1, x.2.1, x.2.2⟩) (fun _ => rfl)).imp fun _ h => ⟨wf_i32 h.1, wf_i32 h.2.1, wf_i64 h.2.2⟩
theorem opens41 : Opens Try.prog 41 (Kd.slice 63 k63) (fun ls => ∀ x ∈ ls, Tr.In32 x.f0 ∧ Tr.In32 x.f1 ∧ -9223372036854775808 ≤ x.f2 ∧ x.f2 ≤ 9223372036854775807) :=
 (Opens.slice Try.underlying41 (by kernel_rfl) opens63).imp fun _ h x hx => h.1 x hx
end Go.Proofs.Ytoefjhdcipgacaa.Op
end
