/-
 Part 16 of what the law HyphPoints rests on: contracts of the functions that it calls, and plain laws of what they compute.
-/
import Derived.Lib.BufferMore
import Derived.Test.YtoefjhdcipgacaaHP14
section
namespace Go.Proofs.Ytoefjhdcipgacaa.Hy
open Go.RowKit Go.Proofs.YtoefjhdcipgacaaW.PrintWords Go.Proofs.YtoefjhdcipgacaaW.PrintLast Go.Proofs.YtoefjhdcipgacaaW.PrintMore
open Go.Proofs.Ytoefjhdcipgacaa.PA
attribute [local go_sem] max2_int min2_int max_two min_two
set_option maxHeartbeats 4000000 in
set_option maxRecDepth 100000 in
theorem clone_calls (l : List S63) (A : Option Addr) (c : Nat) (w : World) (hl : Kd.C k63 w A l.length l) (h8 : l.length ≤ 1000000) :
  Calls Try.prog 42 #[.slice A l.length c] w fun e w' => ∃ v, e = .returned v ∧ Kd.R k63 63 w' w.heap.size (fun _ => True) v l ∧ Below w.heap.size w w' := by
 have HL := Aside0.mk hl
 cases A with
 | none =>
  have h0 : l = [] := by
   rcases Nat.eq_zero_or_pos l.length with h | h
   ·exact List.eq_nil_of_length_eq_zero h
   ·obtain ⟨ad, e, _⟩ := hl.2.2 h
    cases e
  subst h0
  clear hl
  go_enter Try.func42, Try.ntmps42
  have hq := fun w => Lib.run_eql_slice_nil_nil (P := Try.prog) w 0 c Try.underlying41
  go_wp2_with fail
  go_ret
  exact ⟨_, rfl, Kd.R_nil _ _ _ _ _, Below.refl _ _⟩
 | some ad =>
  clear hl
  go_enter Try.func42, Try.ntmps42
  have hq := fun w => Lib.run_eql_slice_some_nil (P := Try.prog) w ad l.length c Try.underlying41
  go_wp2_with (first
   | ((with_reducible refine gate_dst (N := 5) rfl ?_); (refine Kd.R_lit k63 (w0 := w) w.heap.size 63 ?hg (N := 5) ?hd (xs := ([] : List S63)) (inner := []) (ok := fun _ => True) (okp := fun _ => True) ?hr ?hp (fun _ hk => hk) trivial (Below.refl _ _) (Nat.le_refl _) (by simp) ?_; (case hd => rfl); (case hg => rfl); (case hr => first | (go_simp; done) | (go_simp; rfl)); (case hp => exact Reps.none _ _); intro v5 w5 ho hb hg hat; clear hg hat; have HO := Aside0.mk ho; have HB := Aside0.mk hb; clear ho hb))
   | ((with_reducible refine gate_builtin (b := .append) (xs := #[.tmp 5, .tmp 6]) rfl ?_); at_builtin; (refine Kd.R_append_rows k63 (w0 := w) w.heap.size rfl (.tmp 5) (.tmp 6) 41 63 (.agg #[.int .i32 0, .int .i32 0, .int .i64 0]) 16 rfl Try.underlying41 info63 rfl (by decide) (by decide) v5 [] l (some ad) l.length c (fun _ => True) (fun _ => False) rfl rfl HO.out (Kd.C_below HL.out HB.out) (fun x cs h => by obtain rfl := k63_open h; exact k63_mkM _ _ _ x) (fun _ h => h.elim) (fun _ _ => trivial) HB.out (below_size HB.out) (by simp; omega) ?_; intro v7 w7 ho hb hg hat; clear hg hat; rw [List.nil_append] at ho; have HO7 := Aside0.mk ho; have HB7 := Aside0.mk hb; clear ho hb)))
  go_ret
  exact ⟨_, rfl, HO7.out, HB7.out⟩
end Go.Proofs.Ytoefjhdcipgacaa.Hy
end
