/-
 Part 15 of what the law HyphPoints rests on: contracts of the functions that it calls, and plain laws of what they compute.
-/
import Derived.Test.YtoefjhdcipgacaaHP6
import Derived.Test.YtoefjhdcipgacaaHP8
import Derived.Test.YtoefjhdcipgacaaHP14
section
namespace Go.Proofs.Ytoefjhdcipgacaa.PA
open Go.RowKit Go.Proofs.YtoefjhdcipgacaaW.PrintWords Go.Proofs.YtoefjhdcipgacaaW.PrintLast Go.Proofs.YtoefjhdcipgacaaW.PrintMore
attribute [local go_sem] max2_int min2_int max_two min_two max_three min_three max_four min_four   -- for this text's walks alone
set_option linter.unusedVariables false
set_option linter.unusedSimpArgs false
def api_Pattern_54.f (l0 : List (S39)) (l1_0 : List Int) (l1_1 : List Int) : Option (Bool) := some (Hy.hasKey l0 l1_0)
theorem api_Pattern_54.calls (A0 : Option Addr) (c0 : Nat) (l0 : List (S39)) (u6 : Option Addr) (u7 : Nat) (l1_0 : List Int) (A2 : Option Addr) (A3 : Nat) (l1_1 : List Int) (r : Bool) (w : World) (T4 : Kd.C k39 w A0 l0.length l0) (_ : l0.length ≤ c0) (C5 : Kd.C (Kd.int .i32) w u6 l1_0.length l1_0) (_ : l1_0.length ≤ u7) (_ : Kd.C (Kd.int .u8) w A2 l1_1.length l1_1) (_ : l1_1.length ≤ A3) {b : Nat} (hb : w.heap[b]? = some (.cells #[.slice u6 l1_0.length u7, .slice A2 l1_1.length A3] 39 (0, 0))) (h : api_Pattern_54.f l0 l1_0 l1_1 = some r) :
  Calls Try.prog 54 #[.slice A0 l0.length c0, .func (.func 55) #[] #[.pointer (some ⟨b, 0, none⟩)]] w fun e w' => e = .returned (.bool r) ∧ Below w.heap.size w w' := by
 obtain rfl := Option.some.inj h
 exact Hy.containsParsed_calls l0 A0 c0 b u6 u7 l1_0 _ w T4 C5 hb
mutual
def pats_Parse.l0 : Nat → List (S66) → Int → List (S39) → List (S39) → Option ((List (S39)) × (List (S39)) × Int × Int)
 | 0, _, _, _, _ => none
 | k + 1, x5, x6, g1, f9 => if x6 < (x5.length : Int) then (if 0 ≤ x6 then ((pats_blank.f ((rd_T66 x5 x6).f0)).bind fun s5 => (if s5 = true then (pats_Parse.l0 k x5 (wrap64 (x6 + 1)) g1 f9) else (pats_Parse.l1 k x5 x6 x6 g1 f9))) else (none)) else (some (g1, f9, 0, 0))
def pats_Parse.j2 : Nat → List (S66) → Int → Int → List (S39) → List (S39) → Option ((List (S39)) × (List (S39)) × Int × Int)
 | 0, _, _, _, _, _ => none
 | k + 1, x5, x6, x7, g1, f9 => if 0 ≤ x6 then (if x6 < (x5.length : Int) then (if (wrap64 ((g1.length : Int) + (f9.length : Int))) ≥ 256 then (some (([] : List (S39)), ([] : List (S39)), 24, (rd_T66 x5 x6).f1)) else (if x6 ≤ x7 then (if x7 ≤ (x5.length : Int) then ((some ((x5.take (x7 : Int).toNat).drop (x6 : Int).toNat : List (S66))).bind fun d0 => ((pats_one.f k d0).bind fun g6 => (if g6.2.2 = true then ((pats_hyphened.f d0).bind fun k7 => (if k7 = true then ((api_Pattern_54.f f9 g6.1 g6.2.1).bind fun i8 => (if i8 = true then (some (([] : List (S39)), ([] : List (S39)), 23, (rd_T66 x5 x6).f1)) else (if f9.length < 2932031007402 then (pats_Parse.l0 k x5 x7 g1 (f9 ++ [(⟨g6.1, g6.2.1⟩ : S39)])) else (none)))) else (if g1.length < 2932031007402 then (pats_Parse.l0 k x5 x7 (g1 ++ [(⟨g6.1, g6.2.1⟩ : S39)]) f9) else (none)))) else (some (([] : List (S39)), ([] : List (S39)), 30, (rd_T66 x5 x6).f1))))) else (none)) else (none))) else (none)) else (none)
def pats_Parse.l1 : Nat → List (S66) → Int → Int → List (S39) → List (S39) → Option ((List (S39)) × (List (S39)) × Int × Int)
 | 0, _, _, _, _, _ => none
 | k + 1, x5, x6, x7, g1, f9 => if x7 < (x5.length : Int) then (if 0 ≤ x7 then ((pats_blank.f ((rd_T66 x5 x7).f0)).bind fun s6 => (if s6 = true then (pats_Parse.j2 k x5 x6 x7 g1 f9) else (pats_Parse.l1 k x5 x6 (wrap64 (x7 + 1)) g1 f9))) else (none)) else (pats_Parse.j2 k x5 x6 x7 g1 f9)
end
def pats_Parse.f (k : Nat) (a0 : ByteArray) : Option ((List (S39)) × (List (S39)) × Int × Int) := if (a0.size : Int) > 4096 then (some (([] : List (S39)), ([] : List (S39)), 24, 4096)) else ((scal_All.f k (bytesOf a0)).bind fun a9 => (pats_Parse.l0 k a9 0 ([] : List (S39)) ([] : List (S39))))
set_option maxHeartbeats 8000000 in
set_option maxRecDepth 100000 in
theorem pats_Parse.calls (k : Nat) (a0 : ByteArray) (r1 : List (S39)) (r2 : List (S39)) (r3 : Int) (r4 : Int) (w : World) (h : pats_Parse.f k a0 = some (r1, r2, r3, r4)) :
  Calls Try.prog 41 #[.string a0] w fun e w' => ∃ A4 A5 : Value, e = .returned (.tuple #[.agg #[A4, A5], .agg #[.int .i64 r3, .int .i64 r4]]) ∧ Kd.S k39 39 w' w.heap.size (fun k_ => some k_ ≠ (A5 : Value).ownBlock) A4 r1 ∧ Kd.S k39 39 w' w.heap.size (fun k_ => some k_ ≠ (A4 : Value).ownBlock) A5 r2 ∧ Below w.heap.size w w' := by
 have hu50 := Try.underlying50
 have hu46 := Try.underlying46
 have hu39 := Try.underlying39
 have HB := Aside0.mk (Below.refl w.heap.size w)
 have H : (if (a0.size : Int) > 4096 then (some (([] : List (S39)), ([] : List (S39)), 24, 4096)) else ((scal_All.f k (bytesOf a0)).bind fun a9 => (pats_Parse.l0 k a9 0 ([] : List (S39)) ([] : List (S39))))) = some (r1, r2, r3, r4) := h
 clear h
 by_cases c2 : (a0.size : Int) > 4096
 ·rw [if_pos c2] at H
  have s7 : decide (4096 < (a0.size : Int)) = true := decide_eq_true c2
  have p8 : decide (4096 < a0.size) = true := decide_eq_true (by omega)
  clear c2
  simp only [Option.some.injEq, Prod.mk.injEq] at H
  obtain ⟨rfl, rfl, rfl, rfl⟩ := H
  go_enter Try.func41, Try.ntmps41
  go_wp2_with (first | ((with_reducible refine gate_dst (N := 2) rfl ?_); refine box_event ?hg (N := 2) ?hd (cs := #[.slice none 0 0, .slice none 0 0]) (t := 50) ?hr ?_; (case hd => rfl); (case hg => rfl); (case hr => first | (go_simp; done) | (go_simp; rfl)); intro b5 hg w3 hbox hb; have d6 := Aside0.mk (below_step (HB.out) hb); have d7 := Aside0.mk (hbox); have d8 := Aside0.mk ((by rw [hg]; exact (below_size (HB.out)) : w.heap.size ≤ b5)); have d9 := Aside0.mk ((by rw [hg]; exact (below_size (HB.out)) : w.heap.size ≤ b5)); clear HB; have HB := d6; have a7 := d7; have C6 := d8; have d1 := d9; clear d6 d7 d8 d9; clear hb hbox hg) | ((with_reducible refine gate_dst (N := 3) rfl ?_); refine box_event ?hg (N := 3) ?hd (cs := #[.int .i64 0, .int .i64 0]) (t := 46) ?hr ?_; (case hd => rfl); (case hg => rfl); (case hr => first | (go_simp; done) | (go_simp; rfl)); intro b6 hg w4 hbox hb; have d6 := Aside0.mk (blk_below a7.out hb); have d7 := Aside0.mk (below_step (HB.out) hb); have d8 := Aside0.mk (hbox); have d9 := Aside0.mk ((by rw [hg]; exact (below_size (HB.out)) : w.heap.size ≤ b6)); have e0 := Aside0.mk ((by rw [hg]; exact (below_size (HB.out)) : w.heap.size ≤ b6)); have e1 := Aside0.mk ((by rw [hg]; exact Nat.ne_of_lt (blk_lt a7.out) : b5 ≠ b6)); have e2 := Aside0.mk ((by rw [hg]; exact Nat.ne_of_gt (blk_lt a7.out) : b6 ≠ b5)); clear a7; clear HB; have a7 := d6; have HB := d7; have a8 := d8; have C7 := d9; have d2 := e0; have e4 := e1; have e5 := e2; clear d6 d7 d8 d9 e0 e1 e2; clear hb hbox hg) | ((with_reducible refine gate_dst (N := 4) rfl ?_); refine box_event ?hg (N := 4) ?hd (cs := #[.slice none 0 0, .slice none 0 0]) (t := 50) ?hr ?_; (case hd => rfl); (case hg => rfl); (case hr => first | (go_simp; done) | (go_simp; rfl)); intro b2 hg w5 hbox hb; have d6 := Aside0.mk (blk_below a7.out hb); have d7 := Aside0.mk (blk_below a8.out hb); have d8 := Aside0.mk (below_step (HB.out) hb); have d9 := Aside0.mk (hbox); have e0 := Aside0.mk ((by rw [hg]; exact (below_size (HB.out)) : w.heap.size ≤ b2)); have e1 := Aside0.mk ((by rw [hg]; exact (below_size (HB.out)) : w.heap.size ≤ b2)); have e2 := Aside0.mk ((by rw [hg]; exact Nat.ne_of_lt (blk_lt a7.out) : b5 ≠ b2)); have e6 := Aside0.mk ((by rw [hg]; exact Nat.ne_of_gt (blk_lt a7.out) : b2 ≠ b5)); have e7 := Aside0.mk ((by rw [hg]; exact Nat.ne_of_lt (blk_lt a8.out) : b6 ≠ b2)); have f2 := Aside0.mk ((by rw [hg]; exact Nat.ne_of_gt (blk_lt a8.out) : b2 ≠ b6)); clear a7; clear a8; clear HB; have a7 := d6; have a8 := d7; have HB := d8; have a6 := d9; have C8 := e0; have d5 := e1; have f7 := e2; have g4 := e6; have f8 := e7; have g5 := f2; clear d6 d7 d8 d9 e0 e1 e2 e6 e7 f2; clear hb hbox hg; have ab4 := g4.out; have ab5 := f7.out; have ab6 := g5.out; have ab7 := f8.out; have p9 : w5.cell? ⟨b2, 0, none⟩ = some (.slice none 0 0) := (blk_cell a6.out 0).trans rfl; have q0 : w5.cell? ⟨b2, 1, none⟩ = some (.slice none 0 0) := (blk_cell a6.out 1).trans rfl; have q1 := blk_frozen a6.out 0; have q3 := blk_frozen a6.out 1; have ab8 := e4.out; have ab9 := e5.out; have n7 : w5.cell? ⟨b5, 0, none⟩ = some (.slice none 0 0) := (blk_cell a7.out 0).trans rfl; have n8 : w5.cell? ⟨b5, 1, none⟩ = some (.slice none 0 0) := (blk_cell a7.out 1).trans rfl; have n9 := blk_frozen a7.out 0; have o0 := blk_frozen a7.out 1; have o1 : w5.cell? ⟨b6, 0, none⟩ = some (.int .i64 0) := (blk_cell a8.out 0).trans rfl; have o2 : w5.cell? ⟨b6, 1, none⟩ = some (.int .i64 0) := (blk_cell a8.out 1).trans rfl; have o3 := blk_frozen a8.out 0; have o4 := blk_frozen a8.out 1))
  refine bodyPost_ret (results_cc rfl _ _ b5 b6 50 46 #[.slice none 0 0, .slice none 0 0] #[.int .i64 24, .int .i64 4096] (0, 0) (0, 0) _ _ rfl (by refine blk_far ?_ e4.out _; refine blk_far ?_ e4.out _; refine blk_put (cs := #[.slice none 0 0, .slice none 0 0]) ?_ 1 _ rfl; refine blk_put (cs := #[.slice none 0 0, .slice none 0 0]) ?_ 0 _ rfl; exact a7.out) Try.underlying50 rfl (by kernel_rfl) rfl (by refine blk_put (cs := #[.int .i64 24, .int .i64 0]) ?_ 1 _ rfl; refine blk_put (cs := #[.int .i64 0, .int .i64 0]) ?_ 0 _ rfl; refine blk_far ?_ e5.out _; refine blk_far ?_ e5.out _; exact a8.out) Try.underlying46 rfl (by kernel_rfl)) rfl ?_
  exact ⟨_, _, rfl, by first | exact Kd.S_nil _ _ _ _ _ | exact Kd.N_nil _ _ _ _ _ | exact Kd.V_nil _ _ _ _ _ | exact Kd.Q_nil _ _ _ _ _ | exact Kd.R_nil _ _ _ _ _, by first | exact Kd.S_nil _ _ _ _ _ | exact Kd.N_nil _ _ _ _ _ | exact Kd.V_nil _ _ _ _ _ | exact Kd.Q_nil _ _ _ _ _ | exact Kd.R_nil _ _ _ _ _, by repeat (first | (with_reducible first | exact HB.out | apply below_alloc | apply pw_below_drewN | apply below_drew1 | refine below_set ?_ d1.out | refine below_set ?_ d2.out | refine below_set ?_ d5.out) | exact HB.out)⟩
 ·rw [if_neg c2] at H
  have s7 : decide (4096 < (a0.size : Int)) = false := decide_eq_false c2
  have p8 : decide (4096 < a0.size) = false := decide_eq_false (by omega)
  clear c2
  replace H := Option.bind_eq_some_iff.mp H
  obtain ⟨a9, A6, H⟩ := H
  replace H : (pats_Parse.l0 k a9 0 ([] : List (S39)) ([] : List (S39))) = some (r1, r2, r3, r4) := H
  have HSZ : Aside0 (a0.size ≤ 9223372036854775807) := ⟨by have := of_decide_eq_false p8; omega⟩
  have HCAP := Aside0.mk (fun w : World => grownCap_ge w a0.size 0 5)
  have hconv := fun w => run_bytes_of_string (P := Try.prog) w 9 27 5 a0 Try.underlying9 Try.underlying27 Try.underlying5
  have T5 := Aside0.mk A6
  clear A6
  have H' := Aside0.mk H
  clear H
  go_enter Try.func41, Try.ntmps41
  go_wp2_with (first | ((with_reducible refine gate_dst (N := 2) rfl ?_); refine box_event ?hg (N := 2) ?hd (cs := #[.slice none 0 0, .slice none 0 0]) (t := 50) ?hr ?_; (case hd => rfl); (case hg => rfl); (case hr => first | (go_simp; done) | (go_simp; rfl)); intro b5 hg w13 hbox hb; have d6 := Aside0.mk (below_step (by repeat (first | (with_reducible first | exact HB.out | apply below_alloc | apply pw_below_drewN | apply below_drew1) | exact HB.out)) hb); have d7 := Aside0.mk (hbox); have d8 := Aside0.mk ((by rw [hg]; exact (below_size (by repeat (first | (with_reducible first | exact HB.out | apply below_alloc | apply pw_below_drewN | apply below_drew1) | exact HB.out))) : w.heap.size ≤ b5)); have d9 := Aside0.mk ((by rw [hg]; exact (below_size (by repeat (first | (with_reducible first | exact HB.out | apply below_alloc | apply pw_below_drewN | apply below_drew1) | exact HB.out))) : w.heap.size ≤ b5)); clear HB; have HB := d6; have a7 := d7; have C6 := d8; have d1 := d9; clear d6 d7 d8 d9; clear hb hbox hg) | ((with_reducible refine gate_dst (N := 3) rfl ?_); refine box_event ?hg (N := 3) ?hd (cs := #[.int .i64 0, .int .i64 0]) (t := 46) ?hr ?_; (case hd => rfl); (case hg => rfl); (case hr => first | (go_simp; done) | (go_simp; rfl)); intro b6 hg w14 hbox hb; have d6 := Aside0.mk (blk_below (g := b5) (o := .cells #[.slice none 0 0, .slice none 0 0] 50 (0, 0)) (by (with_reducible repeat (first | refine blk_drewN ?_ _ | refine blk_drew ?_ | refine blk_alloc ?_ _)); exact a7.out) hb); have d7 := Aside0.mk (below_step (by repeat (first | (with_reducible first | exact HB.out | apply below_alloc | apply pw_below_drewN | apply below_drew1 | refine below_set ?_ d1.out) | exact HB.out)) hb); have d8 := Aside0.mk (hbox); have d9 := Aside0.mk ((by rw [hg]; exact (below_size (by repeat (first | (with_reducible first | exact HB.out | apply below_alloc | apply pw_below_drewN | apply below_drew1 | refine below_set ?_ d1.out) | exact HB.out))) : w.heap.size ≤ b6)); have e0 := Aside0.mk ((by rw [hg]; exact (below_size (by repeat (first | (with_reducible first | exact HB.out | apply below_alloc | apply pw_below_drewN | apply below_drew1 | refine below_set ?_ d1.out) | exact HB.out))) : w.heap.size ≤ b6)); have e1 := Aside0.mk ((by rw [hg]; exact Nat.ne_of_lt (blk_lt (g := b5) (o := .cells #[.slice none 0 0, .slice none 0 0] 50 (0, 0)) (by (with_reducible repeat (first | refine blk_drewN ?_ _ | refine blk_drew ?_ | refine blk_alloc ?_ _)); exact a7.out)) : b5 ≠ b6)); have e2 := Aside0.mk ((by rw [hg]; exact Nat.ne_of_gt (blk_lt (g := b5) (o := .cells #[.slice none 0 0, .slice none 0 0] 50 (0, 0)) (by (with_reducible repeat (first | refine blk_drewN ?_ _ | refine blk_drew ?_ | refine blk_alloc ?_ _)); exact a7.out)) : b6 ≠ b5)); clear a7; clear HB; have a7 := d6; have HB := d7; have a8 := d8; have C7 := d9; have d2 := e0; have e4 := e1; have e5 := e2; clear d6 d7 d8 d9 e0 e1 e2; clear hb hbox hg) | ((with_reducible refine gate_dst (N := 4) rfl ?_); refine box_event ?hg (N := 4) ?hd (cs := #[.slice none 0 0, .slice none 0 0]) (t := 50) ?hr ?_; (case hd => rfl); (case hg => rfl); (case hr => first | (go_simp; done) | (go_simp; rfl)); intro b2 hg w15 hbox hb; have d6 := Aside0.mk (blk_below (g := b5) (o := .cells #[.slice none 0 0, .slice none 0 0] 50 (0, 0)) (by (with_reducible repeat (first | refine blk_drewN ?_ _ | refine blk_drew ?_ | refine blk_alloc ?_ _)); exact a7.out) hb); have d7 := Aside0.mk (blk_below (g := b6) (o := .cells #[.int .i64 0, .int .i64 0] 46 (0, 0)) (by (with_reducible repeat (first | refine blk_drewN ?_ _ | refine blk_drew ?_ | refine blk_alloc ?_ _)); exact a8.out) hb); have d8 := Aside0.mk (below_step (by repeat (first | (with_reducible first | exact HB.out | apply below_alloc | apply pw_below_drewN | apply below_drew1 | refine below_set ?_ d1.out | refine below_set ?_ d2.out) | exact HB.out)) hb); have d9 := Aside0.mk (hbox); have e0 := Aside0.mk ((by rw [hg]; exact (below_size (by repeat (first | (with_reducible first | exact HB.out | apply below_alloc | apply pw_below_drewN | apply below_drew1 | refine below_set ?_ d1.out | refine below_set ?_ d2.out) | exact HB.out))) : w.heap.size ≤ b2)); have e1 := Aside0.mk ((by rw [hg]; exact (below_size (by repeat (first | (with_reducible first | exact HB.out | apply below_alloc | apply pw_below_drewN | apply below_drew1 | refine below_set ?_ d1.out | refine below_set ?_ d2.out) | exact HB.out))) : w.heap.size ≤ b2)); have e2 := Aside0.mk ((by rw [hg]; exact Nat.ne_of_lt (blk_lt (g := b5) (o := .cells #[.slice none 0 0, .slice none 0 0] 50 (0, 0)) (by (with_reducible repeat (first | refine blk_drewN ?_ _ | refine blk_drew ?_ | refine blk_alloc ?_ _)); exact a7.out)) : b5 ≠ b2)); have e6 := Aside0.mk ((by rw [hg]; exact Nat.ne_of_gt (blk_lt (g := b5) (o := .cells #[.slice none 0 0, .slice none 0 0] 50 (0, 0)) (by (with_reducible repeat (first | refine blk_drewN ?_ _ | refine blk_drew ?_ | refine blk_alloc ?_ _)); exact a7.out)) : b2 ≠ b5)); have e7 := Aside0.mk ((by rw [hg]; exact Nat.ne_of_lt (blk_lt (g := b6) (o := .cells #[.int .i64 0, .int .i64 0] 46 (0, 0)) (by (with_reducible repeat (first | refine blk_drewN ?_ _ | refine blk_drew ?_ | refine blk_alloc ?_ _)); exact a8.out)) : b6 ≠ b2)); have f2 := Aside0.mk ((by rw [hg]; exact Nat.ne_of_gt (blk_lt (g := b6) (o := .cells #[.int .i64 0, .int .i64 0] 46 (0, 0)) (by (with_reducible repeat (first | refine blk_drewN ?_ _ | refine blk_drew ?_ | refine blk_alloc ?_ _)); exact a8.out)) : b2 ≠ b6)); clear a7; clear a8; clear HB; have a7 := d6; have a8 := d7; have HB := d8; have a6 := d9; have C8 := e0; have d5 := e1; have f7 := e2; have g4 := e6; have f8 := e7; have g5 := f2; clear d6 d7 d8 d9 e0 e1 e2 e6 e7 f2; clear hb hbox hg) | (go_at_call 50; refine (allStrS_calls k a0 a9 _ HSZ.out (HCAP.out _) T5.out).mono ?_; rintro e w16 ⟨F3, rfl, i3, hb⟩; have d6 := Aside0.mk (Kd.R_lower i3 (below_size (by repeat (first | (with_reducible first | exact HB.out | apply below_alloc | apply pw_below_drewN | apply below_drew1 | refine below_set ?_ d1.out | refine below_set ?_ d2.out | refine below_set ?_ d5.out) | exact HB.out)))); have d7 := Aside0.mk (blk_below (g := b5) (o := .cells #[.slice none 0 0, .slice none 0 0] 50 (0, 0)) (by (with_reducible repeat (first | refine blk_drewN ?_ _ | refine blk_drew ?_ | refine blk_alloc ?_ _)); exact a7.out) hb); have d8 := Aside0.mk (blk_below (g := b6) (o := .cells #[.int .i64 0, .int .i64 0] 46 (0, 0)) (by (with_reducible repeat (first | refine blk_drewN ?_ _ | refine blk_drew ?_ | refine blk_alloc ?_ _)); exact a8.out) hb); have d9 := Aside0.mk (blk_below (g := b2) (o := .cells #[.slice none 0 0, .slice none 0 0] 50 (0, 0)) (by (with_reducible repeat (first | refine blk_drewN ?_ _ | refine blk_drew ?_ | refine blk_alloc ?_ _)); exact a6.out) hb); have e0 := Aside0.mk (below_step (by repeat (first | (with_reducible first | exact HB.out | apply below_alloc | apply pw_below_drewN | apply below_drew1 | refine below_set ?_ d1.out | refine below_set ?_ d2.out | refine below_set ?_ d5.out) | exact HB.out)) hb); clear a7; clear a8; clear a6; clear HB; have C9 := d6; have a7 := d7; have a8 := d8; have a6 := d9; have HB := e0; clear d6 d7 d8 d9 e0; (try clear hb); (try clear n1); (try clear hk); (try clear hi); (try clear i3)))
  go_loopg [6] k (fun kq v6 w' => ∃ (b0 : Int) (b8 : Int) (b4 : Int) (a2 : List (S39)) (a1 : List (S39)) (f3 : Value) (f4 : Value), v6 = .int .i64 b0 ∧ Aside0 (pats_Parse.l0 kq a9 b0 a2 a1 = some (r1, r2, r3, r4)) ∧ Aside0 (kq ≤ k) ∧ Aside0 (Kd.R k66 66 w' w.heap.size (fun _ => True) F3 a9) ∧ Aside0 (Kd.S k39 39 w' w.heap.size (fun k_ => some k_ ≠ (f4 : Value).ownBlock) f3 a2) ∧ Aside0 (Kd.S k39 39 w' w.heap.size (fun k_ => some k_ ≠ (f3 : Value).ownBlock) f4 a1) ∧ Aside0 (w'.heap[b5]? = some (.cells #[(.slice none 0 0), (.slice none 0 0)] 50 (0, 0))) ∧ Aside0 (w'.heap[b6]? = some (.cells #[.int .i64 b8, .int .i64 b4] 46 (0, 0))) ∧ Aside0 (w'.heap[b2]? = some (.cells #[f3, f4] 50 (0, 0))) ∧ Aside0 (Below w.heap.size w w'))
  case atStart => exact ⟨(0), (0), (0), (([] : List (S39))), (([] : List (S39))), (.slice none 0 0), (.slice none 0 0), (rfl), H', ⟨Nat.le_refl _⟩, ⟨by exact C9.out⟩, ⟨by first | exact Kd.S_nil _ _ _ _ _ | exact Kd.N_nil _ _ _ _ _ | exact Kd.V_nil _ _ _ _ _ | exact Kd.Q_nil _ _ _ _ _ | exact Kd.R_nil _ _ _ _ _⟩, ⟨by first | exact Kd.S_nil _ _ _ _ _ | exact Kd.N_nil _ _ _ _ _ | exact Kd.V_nil _ _ _ _ _ | exact Kd.Q_nil _ _ _ _ _ | exact Kd.R_nil _ _ _ _ _⟩, ⟨by exact a7.out⟩, ⟨by exact a8.out⟩, ⟨by exact a6.out⟩, ⟨HB.out⟩⟩
  case round =>
   clear H'
   try clear c2
   try clear s7
   try clear p8
   try clear p2
   try clear c4
   try clear c5
   try clear c6
   try clear c7
   try clear c9
   try clear n7
   try clear n8
   try clear o1
   try clear o2
   try clear p9
   try clear q0
   try clear n9
   try clear o0
   try clear o3
   try clear o4
   try clear q1
   try clear q3
   obtain ⟨b0, b8, b4, a2, a1, f3, f4, rfl, HA, m5, b7, a4, a3, a7, a8, a6, HB⟩ := hrel
   cases gk with
   | zero => exact absurd HA.out (by simp [pats_Parse.l0])
   | succ k1 =>
    have H := HA.out
    clear HA
    simp only [pats_Parse.l0] at H
    by_cases p1 : b0 < (a9.length : Int)
    ·rw [if_pos p1] at H
     have s8 : decide (b0 < (a9.length : Int)) = true := decide_eq_true p1
     clear p1
     by_cases r6 : 0 ≤ b0
     ·rw [if_pos r6] at H
      have w7 : decide (0 ≤ b0) = true := decide_eq_true r6
      clear r6
      replace H := Option.bind_eq_some_iff.mp H
      obtain ⟨s5, A7, H⟩ := H
      replace H : (if s5 = true then (pats_Parse.l0 k1 a9 (wrap64 (b0 + 1)) a2 a1) else (pats_Parse.l1 k1 a9 b0 b0 a2 a1)) = some (r1, r2, r3, r4) := H
      have E8 := Aside0.mk A7
      clear A7
      by_cases r7 : s5 = true
      ·subst r7
       have H1 : (pats_Parse.l0 k1 a9 (wrap64 (b0 + 1)) a2 a1) = some (r1, r2, r3, r4) := by rw [if_pos rfl] at H; exact H
       clear H
       have H := H1
       clear H1
       have H' := Aside0.mk H
       clear H
       obtain ⟨ac0, ac1, F4⟩ := Kd.R_slice b7.out
       subst F4
       have l3 : 0 ≤ (b0 : Int) := of_decide_eq_true (by assumption)
       have l4 : b0 < (a9.length : Int) := of_decide_eq_true (by assumption)
       obtain ⟨e3, u9, o5, o6, o7⟩ := at_T66 (Kd.R_reads' b7.out).2.2 b0 l3 l4
       cases u9
       replace l3 := eq_true l3
       replace l4 := eq_true l4
       go_wp2_with (first | ((with_reducible refine gate_callee (f := 51) rfl ?_); refine goesL_ (some 29) rfl rfl Try.func51 (by kernel_rfl) rfl #[.int .i32 ((rd_T66 a9 b0).f0)] rfl (by (try simp only [List.map_toArray, List.map_cons, List.map_nil]); first | done | rfl | (simp only [List.length_drop, List.length_take]; rfl)) ?_; (with_reducible refine (pats_blank.calls ((rd_T66 a9 b0).f0) true _ E8.out).mono ?_); rintro e w' ⟨rfl, ⟨nd, rfl⟩⟩; refine ⟨_, rfl, ?_⟩))
       go_roundg k1
       case measure => have := m5.out; omega
       case rel => exact ⟨(wrap64 (b0 + 1)), (b8), (b4), (a2), (a1), (f3), (f4), (rfl), H', ⟨by have := m5.out; omega⟩, ⟨by exact b7.out⟩, ⟨by exact a4.out⟩, ⟨by exact a3.out⟩, ⟨by exact a7.out⟩, ⟨by exact a8.out⟩, ⟨by exact a6.out⟩, ⟨by repeat (first | (with_reducible first | exact HB.out | apply below_alloc | apply pw_below_drewN | apply below_drew1 | refine below_set ?_ d1.out | refine below_set ?_ d2.out | refine below_set ?_ d5.out) | exact HB.out)⟩⟩
      ·replace r7 := Bool.eq_false_iff.mpr r7
       subst r7
       have H1 : (pats_Parse.l1 k1 a9 b0 b0 a2 a1) = some (r1, r2, r3, r4) := by rw [if_neg (show ¬ (false = true) by decide)] at H; exact H
       clear H
       have H := H1
       clear H1
       have v0 := Aside0.mk H
       clear H
       obtain ⟨ac2, k8, F5⟩ := Kd.R_slice b7.out
       subst F5
       have l3 : 0 ≤ (b0 : Int) := of_decide_eq_true (by assumption)
       have l4 : b0 < (a9.length : Int) := of_decide_eq_true (by assumption)
       obtain ⟨e3, u9, o5, o6, o7⟩ := at_T66 (Kd.R_reads' b7.out).2.2 b0 l3 l4
       cases u9
       replace l3 := eq_true l3
       replace l4 := eq_true l4
       go_upto_block 2 with (first | ((with_reducible refine gate_callee (f := 51) rfl ?_); refine goesL_ (some 29) rfl rfl Try.func51 (by kernel_rfl) rfl #[.int .i32 ((rd_T66 a9 b0).f0)] rfl (by (try simp only [List.map_toArray, List.map_cons, List.map_nil]); first | done | rfl | (simp only [List.length_drop, List.length_take]; rfl)) ?_; (with_reducible refine (pats_blank.calls ((rd_T66 a9 b0).f0) false _ E8.out).mono ?_); rintro e w' ⟨rfl, ⟨nd, rfl⟩⟩; refine ⟨_, rfl, ?_⟩))
       go_cut [7] (fun v7 wc => ∃ (kq : Nat) (b3 : Int), v7 = .int .i64 b3 ∧ Aside0 (pats_Parse.j2 kq a9 b0 b3 a2 a1 = some (r1, r2, r3, r4)) ∧ Aside0 (kq ≤ k1) ∧ Aside0 (Kd.R k66 66 wc w.heap.size (fun _ => True) (.slice (some e3) a9.length k8) a9) ∧ Aside0 (Kd.S k39 39 wc w.heap.size (fun k_ => some k_ ≠ (f4 : Value).ownBlock) f3 a2) ∧ Aside0 (Kd.S k39 39 wc w.heap.size (fun k_ => some k_ ≠ (f3 : Value).ownBlock) f4 a1) ∧ Aside0 (wc.heap[b5]? = some (.cells #[(.slice none 0 0), (.slice none 0 0)] 50 (0, 0))) ∧ Aside0 (wc.heap[b6]? = some (.cells #[.int .i64 b8, .int .i64 b4] 46 (0, 0))) ∧ Aside0 (wc.heap[b2]? = some (.cells #[f3, f4] 50 (0, 0))) ∧ Aside0 (Below w.heap.size w wc))
       case first =>
        have H := v0.out
        clear v0
        have H' := Aside0.mk H
        clear H
        go_wp2
        go_loopg [7] k1 (fun kq v7 w' => ∃ (g0 : Int), v7 = .int .i64 g0 ∧ Aside0 (pats_Parse.l1 kq a9 b0 g0 a2 a1 = some (r1, r2, r3, r4)) ∧ Aside0 (kq ≤ k1) ∧ Aside0 (Kd.R k66 66 w' w.heap.size (fun _ => True) (.slice (some e3) a9.length k8) a9) ∧ Aside0 (Kd.S k39 39 w' w.heap.size (fun k_ => some k_ ≠ (f4 : Value).ownBlock) f3 a2) ∧ Aside0 (Kd.S k39 39 w' w.heap.size (fun k_ => some k_ ≠ (f3 : Value).ownBlock) f4 a1) ∧ Aside0 (w'.heap[b5]? = some (.cells #[(.slice none 0 0), (.slice none 0 0)] 50 (0, 0))) ∧ Aside0 (w'.heap[b6]? = some (.cells #[.int .i64 b8, .int .i64 b4] 46 (0, 0))) ∧ Aside0 (w'.heap[b2]? = some (.cells #[f3, f4] 50 (0, 0))) ∧ Aside0 (Below w.heap.size w w'))
        case atStart => exact ⟨(b0), (rfl), H', ⟨Nat.le_refl _⟩, ⟨by exact b7.out⟩, ⟨by exact a4.out⟩, ⟨by exact a3.out⟩, ⟨by exact a7.out⟩, ⟨by exact a8.out⟩, ⟨by exact a6.out⟩, ⟨by repeat (first | (with_reducible first | exact HB.out | apply below_alloc | apply pw_below_drewN | apply below_drew1 | refine below_set ?_ d1.out | refine below_set ?_ d2.out | refine below_set ?_ d5.out) | exact HB.out)⟩⟩
        case round =>
         clear H'
         try clear c1
         try clear c2
         try clear s7
         try clear p8
         try clear p2
         try clear q2
         try clear T6
         try clear c4
         try clear c5
         try clear c6
         try clear p6
         try clear c7
         try clear c9
         try clear p1
         try clear s8
         try clear r6
         try clear w7
         try clear r7
         try clear n7
         try clear n8
         try clear o1
         try clear o2
         try clear p9
         try clear q0
         try clear n9
         try clear o0
         try clear o3
         try clear o4
         try clear q1
         try clear q3
         try clear o5
         try clear o6
         try clear o7
         try clear p2
         try clear l3
         try clear l4
         obtain ⟨g0, rfl, HA, w8, b7, a4, a3, a7, a8, a6, HB⟩ := hrel
         cases gk with
         | zero => exact absurd HA.out (by simp [pats_Parse.l1])
         | succ k2 =>
          have H := HA.out
          clear HA
          simp only [pats_Parse.l1] at H
          by_cases q4 : g0 < (a9.length : Int)
          ·rw [if_pos q4] at H
           have m1 : decide (g0 < (a9.length : Int)) = true := decide_eq_true q4
           clear q4
           (first | rw [m1] | (simp only [i64_w, i32_w]; rw [m1]) | skip)
           by_cases t8 : 0 ≤ g0
           ·rw [if_pos t8] at H
            have D0 : decide (0 ≤ g0) = true := decide_eq_true t8
            clear t8
            replace H := Option.bind_eq_some_iff.mp H
            obtain ⟨s6, A8, H⟩ := H
            replace H : (if s6 = true then (pats_Parse.j2 k2 a9 b0 g0 a2 a1) else (pats_Parse.l1 k2 a9 b0 (wrap64 (g0 + 1)) a2 a1)) = some (r1, r2, r3, r4) := H
            have E9 := Aside0.mk A8
            clear A8
            by_cases t9 : s6 = true
            ·subst t9
             have H1 : (pats_Parse.j2 k2 a9 b0 g0 a2 a1) = some (r1, r2, r3, r4) := by rw [if_pos rfl] at H; exact H
             clear H
             have H := H1
             clear H1
             have H' := Aside0.mk H
             clear H
             have l6 : 0 ≤ (g0 : Int) := of_decide_eq_true (by assumption)
             have l7 : g0 < (a9.length : Int) := of_decide_eq_true (by assumption)
             obtain ⟨s9, v1, r8, r9, s0⟩ := at_T66 (Kd.R_reads' b7.out).2.2 g0 l6 l7
             obtain rfl : e3 = s9 := (by injection v1)
             replace l6 := eq_true l6
             replace l7 := eq_true l7
             go_wp2_with (first | (go_at_call 51; (with_reducible refine (pats_blank.calls ((rd_T66 a9 g0).f0) true _ E9.out).mono ?_); rintro e w' ⟨rfl, ⟨nd, rfl⟩⟩))
             go_meet
             case rel => exact ⟨_, (g0), (rfl), H', ⟨by have := m5.out; have := w8.out; first | omega | exact Nat.le_refl _⟩, ⟨by exact b7.out⟩, ⟨by exact a4.out⟩, ⟨by exact a3.out⟩, ⟨by exact a7.out⟩, ⟨by exact a8.out⟩, ⟨by exact a6.out⟩, ⟨by repeat (first | (with_reducible first | exact HB.out | apply below_alloc | apply pw_below_drewN | apply below_drew1 | refine below_set ?_ d1.out | refine below_set ?_ d2.out | refine below_set ?_ d5.out) | exact HB.out)⟩⟩
            ·replace t9 := Bool.eq_false_iff.mpr t9
             subst t9
             have H1 : (pats_Parse.l1 k2 a9 b0 (wrap64 (g0 + 1)) a2 a1) = some (r1, r2, r3, r4) := by rw [if_neg (show ¬ (false = true) by decide)] at H; exact H
             clear H
             have H := H1
             clear H1
             have H' := Aside0.mk H
             clear H
             have l6 : 0 ≤ (g0 : Int) := of_decide_eq_true (by assumption)
             have l7 : g0 < (a9.length : Int) := of_decide_eq_true (by assumption)
             obtain ⟨s9, v1, r8, r9, s0⟩ := at_T66 (Kd.R_reads' b7.out).2.2 g0 l6 l7
             obtain rfl : e3 = s9 := (by injection v1)
             replace l6 := eq_true l6
             replace l7 := eq_true l7
             go_wp2_with (first | (go_at_call 51; (with_reducible refine (pats_blank.calls ((rd_T66 a9 g0).f0) false _ E9.out).mono ?_); rintro e w' ⟨rfl, ⟨nd, rfl⟩⟩))
             go_roundg k2
             case measure => have := m5.out; have := w8.out; omega
             case rel => exact ⟨(wrap64 (g0 + 1)), (rfl), H', ⟨by have := m5.out; have := w8.out; omega⟩, ⟨by exact b7.out⟩, ⟨by exact a4.out⟩, ⟨by exact a3.out⟩, ⟨by exact a7.out⟩, ⟨by exact a8.out⟩, ⟨by exact a6.out⟩, ⟨by repeat (first | (with_reducible first | exact HB.out | apply below_alloc | apply pw_below_drewN | apply below_drew1 | refine below_set ?_ d1.out | refine below_set ?_ d2.out | refine below_set ?_ d5.out) | exact HB.out)⟩⟩
           ·rw [if_neg t8] at H
            exact absurd H (by simp)
          ·rw [if_neg q4] at H
           have m1 : decide (g0 < (a9.length : Int)) = false := decide_eq_false q4
           clear q4
           (first | rw [m1] | (simp only [i64_w, i32_w]; rw [m1]) | skip)
           have H' := Aside0.mk H
           clear H
           go_wp2
           go_meet
           case rel => exact ⟨_, (g0), (rfl), H', ⟨by have := m5.out; have := w8.out; first | omega | exact Nat.le_refl _⟩, ⟨by exact b7.out⟩, ⟨by exact a4.out⟩, ⟨by exact a3.out⟩, ⟨by exact a7.out⟩, ⟨by exact a8.out⟩, ⟨by exact a6.out⟩, ⟨HB.out⟩⟩
       case rest =>
        clear v0
        try clear c1
        try clear c2
        try clear s7
        try clear p8
        try clear p2
        try clear q2
        try clear T6
        try clear c4
        try clear c5
        try clear c6
        try clear p6
        try clear c7
        try clear c9
        try clear p1
        try clear s8
        try clear r6
        try clear w7
        try clear r7
        try clear q4
        try clear m1
        try clear t8
        try clear D0
        try clear t9
        try clear p27
        try clear q27
        try clear ac3
        try clear n7
        try clear n8
        try clear o1
        try clear o2
        try clear p9
        try clear q0
        try clear n9
        try clear o0
        try clear o3
        try clear o4
        try clear q1
        try clear q3
        try clear o5
        try clear o6
        try clear o7
        try clear r8
        try clear r9
        try clear s0
        try clear p2
        try clear l3
        try clear l6
        try clear p6
        try clear q2
        try clear l4
        try clear l7
        obtain ⟨kq, b3, rfl, HA, t0, b7, a4, a3, a7, a8, a6, HB⟩ := hcut
        cases kq with
        | zero => exact absurd HA.out (by simp [pats_Parse.j2])
        | succ g2 =>
         have H := HA.out
         clear HA
         simp only [pats_Parse.j2] at H
         by_cases w9 : 0 ≤ b0
         ·rw [if_pos w9] at H
          have W1 : decide (0 ≤ b0) = true := decide_eq_true w9
          clear w9
          by_cases x0 : b0 < (a9.length : Int)
          ·rw [if_pos x0] at H
           have W2 : decide (b0 < (a9.length : Int)) = true := decide_eq_true x0
           clear x0
           by_cases s1 : (wrap64 ((a2.length : Int) + (a1.length : Int))) ≥ 256
           ·rw [if_pos s1] at H
            have D1 : decide (256 ≤ (wrap64 ((a2.length : Int) + (a1.length : Int)))) = true := decide_eq_true s1
            clear s1
            simp only [Option.some.injEq, Prod.mk.injEq] at H
            obtain ⟨rfl, rfl, rfl, rfl⟩ := H
            have g7 : 0 ≤ (b0 : Int) := of_decide_eq_true (by assumption)
            have g8 : b0 < (a9.length : Int) := of_decide_eq_true (by assumption)
            obtain ⟨j4, l5, m2, m3, m4⟩ := at_T66 (Kd.R_reads' b7.out).2.2 b0 g7 g8
            obtain rfl : e3 = j4 := (by injection l5)
            replace g7 := eq_true g7
            replace g8 := eq_true g8
            have W3 := g4.out
            have W4 := f7.out
            have W5 := g5.out
            have W6 := f8.out
            have M6 : wc.cell? ⟨b2, 0, none⟩ = some (f3) := (blk_cell a6.out 0).trans rfl
            have M7 : wc.cell? ⟨b2, 1, none⟩ = some (f4) := (blk_cell a6.out 1).trans rfl
            have M8 := blk_frozen a6.out 0
            have M9 := blk_frozen a6.out 1
            obtain ⟨ac4, ac5, F6⟩ := Kd.S_slice a4.out
            subst F6
            obtain ⟨ac6, ac7, F7⟩ := Kd.S_slice a3.out
            subst F7
            have W7 := e4.out
            have W8 := e5.out
            have N0 : wc.cell? ⟨b5, 0, none⟩ = some (.slice none 0 0) := (blk_cell a7.out 0).trans rfl
            have N1 : wc.cell? ⟨b5, 1, none⟩ = some (.slice none 0 0) := (blk_cell a7.out 1).trans rfl
            have N2 := blk_frozen a7.out 0
            have N3 := blk_frozen a7.out 1
            have N4 : wc.cell? ⟨b6, 0, none⟩ = some (.int .i64 b8) := (blk_cell a8.out 0).trans rfl
            have N5 : wc.cell? ⟨b6, 1, none⟩ = some (.int .i64 b4) := (blk_cell a8.out 1).trans rfl
            have N6 := blk_frozen a8.out 0
            have N7 := blk_frozen a8.out 1
            go_wp2
            refine bodyPost_ret (results_cc rfl _ _ b5 b6 50 46 #[.slice none 0 0, .slice none 0 0] #[.int .i64 24, .int .i64 ((rd_T66 a9 b0).f1)] (0, 0) (0, 0) _ _ rfl (by refine blk_far ?_ e4.out _; refine blk_far ?_ e4.out _; refine blk_put (cs := #[.slice none 0 0, .slice none 0 0]) ?_ 1 _ rfl; refine blk_put (cs := #[.slice none 0 0, .slice none 0 0]) ?_ 0 _ rfl; exact a7.out) Try.underlying50 rfl (by kernel_rfl) rfl (by refine blk_put (cs := #[.int .i64 24, .int .i64 b4]) ?_ 1 _ rfl; refine blk_put (cs := #[.int .i64 b8, .int .i64 b4]) ?_ 0 _ rfl; refine blk_far ?_ e5.out _; refine blk_far ?_ e5.out _; exact a8.out) Try.underlying46 rfl (by kernel_rfl)) rfl ?_
            exact ⟨_, _, rfl, by first | exact Kd.S_nil _ _ _ _ _ | exact Kd.N_nil _ _ _ _ _ | exact Kd.V_nil _ _ _ _ _ | exact Kd.Q_nil _ _ _ _ _ | exact Kd.R_nil _ _ _ _ _, by first | exact Kd.S_nil _ _ _ _ _ | exact Kd.N_nil _ _ _ _ _ | exact Kd.V_nil _ _ _ _ _ | exact Kd.Q_nil _ _ _ _ _ | exact Kd.R_nil _ _ _ _ _, by repeat (first | (with_reducible first | exact HB.out | apply below_alloc | apply pw_below_drewN | apply below_drew1 | refine below_set ?_ d1.out | refine below_set ?_ d2.out | refine below_set ?_ d5.out) | exact HB.out)⟩
           ·rw [if_neg s1] at H
            have D1 : decide (256 ≤ (wrap64 ((a2.length : Int) + (a1.length : Int)))) = false := decide_eq_false s1
            clear s1
            have W9 := eq_true (of_decide_eq_true (by assumption) : 0 ≤ b0)
            by_cases u0 : b0 ≤ b3
            ·rw [if_pos u0] at H
             have X0 := eq_true u0
             have X1 : decide (b0 ≤ b3) = true := decide_eq_true u0
             clear u0
             by_cases u1 : b3 ≤ (a9.length : Int)
             ·rw [if_pos u1] at H
              have X2 := eq_true u1
              have X3 : decide (b3 ≤ (a9.length : Int)) = true := decide_eq_true u1
              clear u1
              obtain ⟨d0, n2⟩ : ∃ y_ : List (S66), y_ = ((a9.take (b3 : Int).toNat).drop (b0 : Int).toNat) := ⟨_, rfl⟩
              replace H : ((pats_one.f g2 d0).bind fun g6 => (if g6.2.2 = true then ((pats_hyphened.f d0).bind fun k7 => (if k7 = true then ((api_Pattern_54.f a1 g6.1 g6.2.1).bind fun i8 => (if i8 = true then (some (([] : List (S39)), ([] : List (S39)), 23, (rd_T66 a9 b0).f1)) else (if a1.length < 2932031007402 then (pats_Parse.l0 g2 a9 b3 a2 (a1 ++ [(⟨g6.1, g6.2.1⟩ : S39)])) else (none)))) else (if a2.length < 2932031007402 then (pats_Parse.l0 g2 a9 b3 (a2 ++ [(⟨g6.1, g6.2.1⟩ : S39)]) a1) else (none)))) else (some (([] : List (S39)), ([] : List (S39)), 30, (rd_T66 a9 b0).f1)))) = some (r1, r2, r3, r4) := by first | (rw [n2]; with_reducible exact H) | (have l8 := (Option.bind_some _ _).symm.trans H; rw [n2]; with_reducible exact l8) | (have l8 := (Option.bind_some _ _).symm.trans H; with_reducible exact l8) | with_reducible exact H | (rw [n2]; exact H) | exact H
              have h1 := Aside0.mk n2
              clear n2
              replace H := Option.bind_eq_some_iff.mp H
              obtain ⟨⟨c3, c8, A9⟩, B0, H⟩ := H
              replace H : (if A9 = true then ((pats_hyphened.f d0).bind fun k7 => (if k7 = true then ((api_Pattern_54.f a1 c3 c8).bind fun i8 => (if i8 = true then (some (([] : List (S39)), ([] : List (S39)), 23, (rd_T66 a9 b0).f1)) else (if a1.length < 2932031007402 then (pats_Parse.l0 g2 a9 b3 a2 (a1 ++ [(⟨c3, c8⟩ : S39)])) else (none)))) else (if a2.length < 2932031007402 then (pats_Parse.l0 g2 a9 b3 (a2 ++ [(⟨c3, c8⟩ : S39)]) a1) else (none)))) else (some (([] : List (S39)), ([] : List (S39)), 30, (rd_T66 a9 b0).f1))) = some (r1, r2, r3, r4) := H
              have x1 := Aside0.mk B0
              clear B0
              by_cases x2 : A9 = true
              ·subst x2
               have H1 : ((pats_hyphened.f d0).bind fun k7 => (if k7 = true then ((api_Pattern_54.f a1 c3 c8).bind fun i8 => (if i8 = true then (some (([] : List (S39)), ([] : List (S39)), 23, (rd_T66 a9 b0).f1)) else (if a1.length < 2932031007402 then (pats_Parse.l0 g2 a9 b3 a2 (a1 ++ [(⟨c3, c8⟩ : S39)])) else (none)))) else (if a2.length < 2932031007402 then (pats_Parse.l0 g2 a9 b3 (a2 ++ [(⟨c3, c8⟩ : S39)]) a1) else (none)))) = some (r1, r2, r3, r4) := by rw [if_pos rfl] at H; exact H
               clear H
               have H := H1
               clear H1
               replace H := Option.bind_eq_some_iff.mp H
               obtain ⟨k7, B1, H⟩ := H
               replace H : (if k7 = true then ((api_Pattern_54.f a1 c3 c8).bind fun i8 => (if i8 = true then (some (([] : List (S39)), ([] : List (S39)), 23, (rd_T66 a9 b0).f1)) else (if a1.length < 2932031007402 then (pats_Parse.l0 g2 a9 b3 a2 (a1 ++ [(⟨c3, c8⟩ : S39)])) else (none)))) else (if a2.length < 2932031007402 then (pats_Parse.l0 g2 a9 b3 (a2 ++ [(⟨c3, c8⟩ : S39)]) a1) else (none))) = some (r1, r2, r3, r4) := H
               have B2 := Aside0.mk B1
               clear B1
               by_cases x3 : k7 = true
               ·subst x3
                have H1 : ((api_Pattern_54.f a1 c3 c8).bind fun i8 => (if i8 = true then (some (([] : List (S39)), ([] : List (S39)), 23, (rd_T66 a9 b0).f1)) else (if a1.length < 2932031007402 then (pats_Parse.l0 g2 a9 b3 a2 (a1 ++ [(⟨c3, c8⟩ : S39)])) else (none)))) = some (r1, r2, r3, r4) := by rw [if_pos rfl] at H; exact H
                clear H
                have H := H1
                clear H1
                replace H := Option.bind_eq_some_iff.mp H
                obtain ⟨i8, B3, H⟩ := H
                replace H : (if i8 = true then (some (([] : List (S39)), ([] : List (S39)), 23, (rd_T66 a9 b0).f1)) else (if a1.length < 2932031007402 then (pats_Parse.l0 g2 a9 b3 a2 (a1 ++ [(⟨c3, c8⟩ : S39)])) else (none))) = some (r1, r2, r3, r4) := H
                have F0 := Aside0.mk B3
                clear B3
                by_cases x4 : i8 = true
                ·subst x4
                 have H1 : (some (([] : List (S39)), ([] : List (S39)), 23, (rd_T66 a9 b0).f1)) = some (r1, r2, r3, r4) := by rw [if_pos rfl] at H; exact H
                 clear H
                 have H := H1
                 clear H1
                 simp only [Option.some.injEq, Prod.mk.injEq] at H
                 obtain ⟨rfl, rfl, rfl, rfl⟩ := H
                 have g7 : 0 ≤ (b0 : Int) := of_decide_eq_true (by assumption)
                 have g8 : b0 < (a9.length : Int) := of_decide_eq_true (by assumption)
                 obtain ⟨j4, l5, m2, m3, m4⟩ := at_T66 (Kd.R_reads' b7.out).2.2 b0 g7 g8
                 obtain rfl : e3 = j4 := (by injection l5)
                 replace g7 := eq_true g7
                 replace g8 := eq_true g8
                 have X4 := g4.out
                 have X5 := f7.out
                 have X6 := g5.out
                 have X7 := f8.out
                 have N8 : wc.cell? ⟨b2, 0, none⟩ = some (f3) := (blk_cell a6.out 0).trans rfl
                 have N9 : wc.cell? ⟨b2, 1, none⟩ = some (f4) := (blk_cell a6.out 1).trans rfl
                 have O0 := blk_frozen a6.out 0
                 have O1 := blk_frozen a6.out 1
                 obtain ⟨m6, m7, F8⟩ := Kd.S_slice a4.out
                 subst F8
                 obtain ⟨l9, m0, F9⟩ := Kd.S_slice a3.out
                 subst F9
                 have B4 : (b3 : Int) ≤ ((a9.length : Int) : Int) := of_decide_eq_true (by assumption)
                 obtain ⟨i053, x8, _, x9, _⟩ := info_parts info66
                 have s2 : a9.length ≤ k8 := (Kd.R_reads' b7.out).2.1
                 have B5 : Kd.C k66 _ (some e3) a9.length a9 := (Kd.R_reads' b7.out).2.2
                 have G0 : (b0 : Int) ≤ (b3 : Int) := of_decide_eq_true (by assumption)
                 have G1 : (0 : Int) ≤ (b0 : Int) := of_decide_eq_true (by assumption)
                 have B6 := Hy.cut_max (P := Try.prog) 55 66 .i64 .i64 .i64 Try.underlying55 x8 3 x9 (some e3) a9.length k8 b0 b3 G1 G0 B4 s2
                 have q5 := Hy.C_max (lo := (b0 : Int).toNat) (hi := (b3 : Int).toNat) B5 (by omega) (by omega)
                 obtain ⟨y5, q6⟩ : ∃ A1, A1 = (if (b3 : Int).toNat = (b0 : Int).toNat then (some e3) else ((some e3) : Option Addr).map (·.add ((b0 : Int).toNat * 3))) := ⟨_, rfl⟩
                 have v2 : d0.length = (b3 : Int).toNat - (b0 : Int).toNat := (by rw [h1.out, List.length_drop, List.length_take] <;> omega)
                 rw [show ((a9).take (b3 : Int).toNat).drop (b0 : Int).toNat = d0 from h1.out.symm] at q5
                 replace q5 : Kd.C k66 _ y5 d0.length d0 := (by rw [q6]; exact q5)
                 rw [← v2, ← q6] at B6
                 have HCUT : Aside0 (∀ w1 : World, Kd.C k66 w1 (some e3) a9.length a9 → Kd.C k66 w1 y5 d0.length d0) := ⟨fun w1 hC => (by have hr := Hy.C_max (lo := (b0 : Int).toNat) (hi := (b3 : Int).toNat) hC (by omega) (by omega); rw [show ((a9).take (b3 : Int).toNat).drop (b0 : Int).toNat = d0 from h1.out.symm] at hr; rw [q6]; exact hr)⟩
                 have b9 := Aside0.mk q5
                 have j3 := Aside0.mk (Nat.le_refl d0.length)
                 clear q5 B5 s2 x8 x9
                 have ac8 := Aside0.mk v2
                 have ac9 := Aside0.mk q6
                 clear v2 q6
                 have ad0 := Aside0.mk (show (b3 : Int).toNat ≤ a9.length from by omega)
                 have ad1 := Aside0.mk (show (b0 : Int).toNat ≤ (b3 : Int).toNat from by omega)
                 replace B4 := eq_true B4
                 go_wp2_with (first | ((with_reducible refine gate_callee (f := 52) rfl ?_); refine goesL_ (some 71) rfl rfl Try.func52 (by kernel_rfl) rfl #[.slice y5 d0.length d0.length] rfl (by (try simp only [List.map_toArray, List.map_cons, List.map_nil]); first | done | rfl | (simp only [List.length_drop, List.length_take]; rfl)) ?_; (with_reducible refine (pats_one.calls g2 _ _ d0 c3 c8 true _ ?side1 ?side2 x1.out).mono ?_); (case side1 => repeat (first | exact (by repeat (first | (with_reducible exact b9.out) | (with_reducible refine Kd.C_alloc ?_ _) | (with_reducible refine Kd.C_drewN ?_ _) | (with_reducible refine Kd.C_drew ?_) | exact b9.out)) | (with_reducible refine Kd.C_alloc ?_ _) | (with_reducible refine Kd.C_drewN ?_ _) | (with_reducible refine Kd.C_drew ?_))); (case side2 => exact j3.out); rintro e w54 ⟨v3, v4, rfl, i3, i9, hb⟩; refine ⟨_, rfl, ?_⟩; have d6 := Aside0.mk (Kd.R_below (by exact b7.out) hb); have d7 := Aside0.mk (Kd.S_mono (Kd.S_told (Kd.S_told (Kd.S_old (by exact a4.out) hb) (Kd.R_base i3)) (Kd.R_base i9)) (fun _ h_ => h_.1)); have d8 := Aside0.mk (Kd.S_mono (Kd.S_told (Kd.S_told (Kd.S_old (by exact a3.out) hb) (Kd.R_base i3)) (Kd.R_base i9)) (fun _ h_ => h_.1)); have d9 := Aside0.mk (Kd.R_lower i3 (below_size (by exact HB.out))); have e0 := Aside0.mk (Kd.R_lower i9 (below_size (by exact HB.out))); have e1 := Aside0.mk (blk_below (g := b5) (o := .cells #[.slice none 0 0, .slice none 0 0] 50 (0, 0)) (by exact a7.out) hb); have e2 := Aside0.mk (blk_below (g := b6) (o := .cells #[.int .i64 b8, .int .i64 b4] 46 (0, 0)) (by exact a8.out) hb); have e6 := Aside0.mk (blk_below (g := b2) (o := .cells #[.slice m6 a2.length m7, .slice l9 a1.length m0] 50 (0, 0)) (by exact a6.out) hb); have e7 := Aside0.mk (Kd.C_below (by repeat (first | (with_reducible exact b9.out) | (with_reducible refine Kd.C_alloc ?_ _) | (with_reducible refine Kd.C_drewN ?_ _) | (with_reducible refine Kd.C_drew ?_) | exact b9.out)) hb); have f2 := Aside0.mk (below_step (by exact HB.out) hb); clear b7; clear a4; clear a3; clear a7; clear a8; clear a6; clear b9; clear HB; have b7 := d6; have a4 := d7; have a3 := d8; have d3 := d9; have d4 := e0; have a7 := e1; have a8 := e2; have a6 := e6; have b9 := e7; have HB := f2; clear d6 d7 d8 d9 e0 e1 e2 e6 e7 f2; (try clear hb); (try clear n1); (try clear hk); (try clear hi); (try clear i3); (try clear i9)) | ((with_reducible refine gate_dst (N := 10) rfl ?_); refine box_event ?hg (N := 10) ?hd (cs := #[.slice none 0 0, .slice none 0 0]) (t := 39) ?hr ?_; (case hd => rfl); (case hg => rfl); (case hr => first | (go_simp; done) | (go_simp; rfl)); intro a5 hg F1 hbox hb; have d6 := Aside0.mk (Kd.R_below (by exact b7.out) hb); have d7 := Aside0.mk (Kd.S_below (Kd.S_elderB (by exact a4.out) a5 (Nat.le_of_eq hg.symm)) hb); have d8 := Aside0.mk (Kd.S_below (Kd.S_elderB (by exact a3.out) a5 (Nat.le_of_eq hg.symm)) hb); have d9 := Aside0.mk (Kd.R_below (by exact d3.out) hb); have e0 := Aside0.mk (Kd.R_below (by exact d4.out) hb); have e1 := Aside0.mk (blk_below (g := b5) (o := .cells #[.slice none 0 0, .slice none 0 0] 50 (0, 0)) (by exact a7.out) hb); have e2 := Aside0.mk (blk_below (g := b6) (o := .cells #[.int .i64 b8, .int .i64 b4] 46 (0, 0)) (by exact a8.out) hb); have e6 := Aside0.mk (blk_below (g := b2) (o := .cells #[.slice m6 a2.length m7, .slice l9 a1.length m0] 50 (0, 0)) (by exact a6.out) hb); have e7 := Aside0.mk (Kd.C_below (by repeat (first | (with_reducible exact b9.out) | (with_reducible refine Kd.C_alloc ?_ _) | (with_reducible refine Kd.C_drewN ?_ _) | (with_reducible refine Kd.C_drew ?_) | exact b9.out)) hb); have f2 := Aside0.mk (below_step (by exact HB.out) hb); have f6 := Aside0.mk (hbox); have j5 := Aside0.mk ((by rw [hg]; exact (below_size (by exact HB.out)) : w.heap.size ≤ a5)); have j6 := Aside0.mk ((by rw [hg]; exact (below_size (by exact HB.out)) : w.heap.size ≤ a5)); have j7 := Aside0.mk ((by rw [hg]; exact Nat.ne_of_lt (blk_lt (g := b5) (o := .cells #[.slice none 0 0, .slice none 0 0] 50 (0, 0)) (by exact a7.out)) : b5 ≠ a5)); have j8 := Aside0.mk ((by rw [hg]; exact Nat.ne_of_gt (blk_lt (g := b5) (o := .cells #[.slice none 0 0, .slice none 0 0] 50 (0, 0)) (by exact a7.out)) : a5 ≠ b5)); have j9 := Aside0.mk ((by rw [hg]; exact Nat.ne_of_lt (blk_lt (g := b6) (o := .cells #[.int .i64 b8, .int .i64 b4] 46 (0, 0)) (by exact a8.out)) : b6 ≠ a5)); have k0 := Aside0.mk ((by rw [hg]; exact Nat.ne_of_gt (blk_lt (g := b6) (o := .cells #[.int .i64 b8, .int .i64 b4] 46 (0, 0)) (by exact a8.out)) : a5 ≠ b6)); have k3 := Aside0.mk ((by rw [hg]; exact Nat.ne_of_lt (blk_lt (g := b2) (o := .cells #[.slice m6 a2.length m7, .slice l9 a1.length m0] 50 (0, 0)) (by exact a6.out)) : b2 ≠ a5)); have k4 := Aside0.mk ((by rw [hg]; exact Nat.ne_of_gt (blk_lt (g := b2) (o := .cells #[.slice m6 a2.length m7, .slice l9 a1.length m0] 50 (0, 0)) (by exact a6.out)) : a5 ≠ b2)); clear b7; clear a4; clear a3; clear d3; clear d4; clear a7; clear a8; clear a6; clear b9; clear HB; have b7 := d6; have a4 := d7; have a3 := d8; have d3 := d9; have d4 := e0; have a7 := e1; have a8 := e2; have a6 := e6; have b9 := e7; have HB := f2; have b1 := f6; have t1 := j5; have g3 := j6; have e8 := j7; have h4 := j8; have e9 := j9; have h5 := k0; have f5 := k3; have h6 := k4; clear d6 d7 d8 d9 e0 e1 e2 e6 e7 f2 f6 j5 j6 j7 j8 j9 k0 k3 k4; clear hb hbox hg; obtain ⟨k5, k6, G2⟩ := Kd.R_slice d3.out; subst G2; have X8 := h4.out; have X9 := e8.out; have Y0 := h5.out; have Y1 := e9.out; have Y2 := h6.out; have Y3 := f5.out; have O2 : F1.cell? ⟨a5, 0, none⟩ = some (.slice none 0 0) := (blk_cell b1.out 0).trans rfl; have O3 : F1.cell? ⟨a5, 1, none⟩ = some (.slice none 0 0) := (blk_cell b1.out 1).trans rfl; have O4 := blk_frozen b1.out 0; have O5 := blk_frozen b1.out 1; obtain ⟨k9, l2, G3⟩ := Kd.R_slice d4.out; subst G3) | ((with_reducible refine gate_callee (f := 53) rfl ?_); refine goesL_ (some 88) rfl rfl Try.func53 (by kernel_rfl) rfl #[.slice y5 d0.length d0.length] rfl (by (try simp only [List.map_toArray, List.map_cons, List.map_nil]); first | done | rfl | (simp only [List.length_drop, List.length_take]; rfl)) ?_; (with_reducible refine (pats_hyphened.calls _ _ d0 true _ ?side1 ?side2 B2.out).mono ?_); (case side1 => repeat (first | exact ((HCUT.out _ (Kd.R_reads' (by exact (Kd.R_mono (Kd.R_far (p := ⟨a5, 1, none⟩) (Kd.R_far (p := ⟨a5, 0, none⟩) (Kd.R_types b7.out b1.out (by decide)) (fun _ hk => hk.2) (.slice k5 c3.length k6)) (fun _ hk => hk.2) (.slice k9 c8.length l2)) (fun _ h_ => h_.1)))).2.2)) | (with_reducible refine Kd.C_alloc ?_ _) | (with_reducible refine Kd.C_drewN ?_ _) | (with_reducible refine Kd.C_drew ?_))); (case side2 => exact j3.out); rintro e y6 ⟨rfl, hb⟩; refine ⟨_, rfl, ?_⟩; have d6 := Aside0.mk (Kd.R_below (by exact (Kd.R_mono (Kd.R_far (p := ⟨a5, 1, none⟩) (Kd.R_far (p := ⟨a5, 0, none⟩) (Kd.R_types b7.out b1.out (by decide)) (fun _ hk => hk.2) (.slice k5 c3.length k6)) (fun _ hk => hk.2) (.slice k9 c8.length l2)) (fun _ h_ => h_.1))) hb); have d7 := Aside0.mk (Kd.S_below (by exact (Kd.S_mono (Kd.S_far (p := ⟨a5, 1, none⟩) (Kd.S_far (p := ⟨a5, 0, none⟩) (Kd.S_mono a4.out (fun k_ hk => (⟨hk, hk.2⟩ : _ ∧ k_ ≠ a5))) (fun _ hk => hk.2) (.slice k5 c3.length k6)) (fun _ hk => hk.2) (.slice k9 c8.length l2)) (fun _ h_ => h_.1))) hb); have d8 := Aside0.mk (Kd.S_below (by exact (Kd.S_mono (Kd.S_far (p := ⟨a5, 1, none⟩) (Kd.S_far (p := ⟨a5, 0, none⟩) (Kd.S_mono a3.out (fun k_ hk => (⟨hk, hk.2⟩ : _ ∧ k_ ≠ a5))) (fun _ hk => hk.2) (.slice k5 c3.length k6)) (fun _ hk => hk.2) (.slice k9 c8.length l2)) (fun _ h_ => h_.1))) hb); have d9 := Aside0.mk (Kd.R_below (by exact (Kd.R_mono (Kd.R_far (p := ⟨a5, 1, none⟩) (Kd.R_far (p := ⟨a5, 0, none⟩) (Kd.R_types d3.out b1.out (by decide)) (fun _ hk => hk.2) (.slice k5 c3.length k6)) (fun _ hk => hk.2) (.slice k9 c8.length l2)) (fun _ h_ => h_.1))) hb); have e0 := Aside0.mk (Kd.R_below (by exact (Kd.R_mono (Kd.R_far (p := ⟨a5, 1, none⟩) (Kd.R_far (p := ⟨a5, 0, none⟩) (Kd.R_types d4.out b1.out (by decide)) (fun _ hk => hk.2) (.slice k5 c3.length k6)) (fun _ hk => hk.2) (.slice k9 c8.length l2)) (fun _ h_ => h_.1))) hb); have e1 := Aside0.mk (blk_below (g := b5) (o := .cells #[.slice none 0 0, .slice none 0 0] 50 (0, 0)) (by refine blk_far ?_ e8.out _; refine blk_far ?_ e8.out _; exact a7.out) hb); have e2 := Aside0.mk (blk_below (g := b6) (o := .cells #[.int .i64 b8, .int .i64 b4] 46 (0, 0)) (by refine blk_far ?_ e9.out _; refine blk_far ?_ e9.out _; exact a8.out) hb); have e6 := Aside0.mk (blk_below (g := b2) (o := .cells #[.slice m6 a2.length m7, .slice l9 a1.length m0] 50 (0, 0)) (by refine blk_far ?_ f5.out _; refine blk_far ?_ f5.out _; exact a6.out) hb); have e7 := Aside0.mk (Kd.C_below ((HCUT.out _ (Kd.R_reads' (by exact (Kd.R_mono (Kd.R_far (p := ⟨a5, 1, none⟩) (Kd.R_far (p := ⟨a5, 0, none⟩) (Kd.R_types b7.out b1.out (by decide)) (fun _ hk => hk.2) (.slice k5 c3.length k6)) (fun _ hk => hk.2) (.slice k9 c8.length l2)) (fun _ h_ => h_.1)))).2.2)) hb); have f2 := Aside0.mk (blk_below (g := a5) (o := .cells #[.slice k5 c3.length k6, .slice k9 c8.length l2] 39 (0, 0)) (by refine blk_put (cs := #[.slice k5 c3.length k6, .slice none 0 0]) ?_ 1 _ rfl; refine blk_put (cs := #[.slice none 0 0, .slice none 0 0]) ?_ 0 _ rfl; exact b1.out) hb); have f6 := Aside0.mk (below_step (by repeat (first | (with_reducible first | exact HB.out | apply below_alloc | apply pw_below_drewN | apply below_drew1 | refine below_set ?_ d1.out | refine below_set ?_ d2.out | refine below_set ?_ d5.out | refine below_set ?_ g3.out) | exact HB.out)) hb); clear b7; clear a4; clear a3; clear d3; clear d4; clear a7; clear a8; clear a6; clear b9; clear b1; clear HB; have b7 := d6; have a4 := d7; have a3 := d8; have d3 := d9; have d4 := e0; have a7 := e1; have a8 := e2; have a6 := e6; have b9 := e7; have b1 := f2; have HB := f6; clear d6 d7 d8 d9 e0 e1 e2 e6 e7 f2 f6; (try clear hb); (try clear n1); (try clear hk); (try clear hi); have O6 : y6.cell? ⟨b2, 0, none⟩ = some (.slice m6 a2.length m7) := (blk_cell a6.out 0).trans rfl; have O7 : y6.cell? ⟨b2, 1, none⟩ = some (.slice l9 a1.length m0) := (blk_cell a6.out 1).trans rfl; have O8 := blk_frozen a6.out 0; have O9 := blk_frozen a6.out 1; have P0 : y6.cell? ⟨a5, 0, none⟩ = some (.slice k5 c3.length k6) := (blk_cell b1.out 0).trans rfl; have P1 : y6.cell? ⟨a5, 1, none⟩ = some (.slice k9 c8.length l2) := (blk_cell b1.out 1).trans rfl; have P2 := blk_frozen b1.out 0; have P3 := blk_frozen b1.out 1) | ((with_reducible refine gate_callee (f := 54) rfl ?_); refine goesL_ (some 100) rfl rfl Try.func54 (by kernel_rfl) rfl #[.slice l9 a1.length m0, .func (.func 55) #[] #[.pointer (some ⟨a5, 0, none⟩)]] rfl (by (try simp only [List.map_toArray, List.map_cons, List.map_nil]); first | done | rfl | (simp only [List.length_drop, List.length_take]; rfl)) ?_; refine (api_Pattern_54.calls _ _ a1 _ _ c3 _ _ c8 true _ ?side1 ?side2 ?side3 ?side4 ?side5 ?side6 (by exact b1.out) F0.out).mono ?_; (case side1 => repeat (first | exact (Kd.S_reads' a3.out).2.2 | (with_reducible refine Kd.C_alloc ?_ _) | (with_reducible refine Kd.C_drewN ?_ _) | (with_reducible refine Kd.C_drew ?_))); (case side2 => exact (Kd.S_reads' a3.out).2.1); (case side3 => repeat (first | exact (Kd.R_reads' d3.out).2.2 | (with_reducible refine Kd.C_alloc ?_ _) | (with_reducible refine Kd.C_drewN ?_ _) | (with_reducible refine Kd.C_drew ?_))); (case side4 => exact (Kd.R_reads' d3.out).2.1); (case side5 => repeat (first | exact (Kd.R_reads' d4.out).2.2 | (with_reducible refine Kd.C_alloc ?_ _) | (with_reducible refine Kd.C_drewN ?_ _) | (with_reducible refine Kd.C_drew ?_))); (case side6 => exact (Kd.R_reads' d4.out).2.1); rintro e y7 ⟨rfl, hb⟩; refine ⟨_, rfl, ?_⟩; have d6 := Aside0.mk (Kd.R_below (by exact b7.out) hb); have d7 := Aside0.mk (Kd.S_below (by exact a4.out) hb); have d8 := Aside0.mk (Kd.S_below (by exact a3.out) hb); have d9 := Aside0.mk (Kd.R_below (by exact d3.out) hb); have e0 := Aside0.mk (Kd.R_below (by exact d4.out) hb); have e1 := Aside0.mk (blk_below (g := b5) (o := .cells #[.slice none 0 0, .slice none 0 0] 50 (0, 0)) (by exact a7.out) hb); have e2 := Aside0.mk (blk_below (g := b6) (o := .cells #[.int .i64 b8, .int .i64 b4] 46 (0, 0)) (by exact a8.out) hb); have e6 := Aside0.mk (blk_below (g := b2) (o := .cells #[.slice m6 a2.length m7, .slice l9 a1.length m0] 50 (0, 0)) (by exact a6.out) hb); have e7 := Aside0.mk (Kd.C_below (by repeat (first | (with_reducible exact b9.out) | (with_reducible refine Kd.C_alloc ?_ _) | (with_reducible refine Kd.C_drewN ?_ _) | (with_reducible refine Kd.C_drew ?_) | exact b9.out)) hb); have f2 := Aside0.mk (blk_below (g := a5) (o := .cells #[.slice k5 c3.length k6, .slice k9 c8.length l2] 39 (0, 0)) (by exact b1.out) hb); have f6 := Aside0.mk (below_step (by exact HB.out) hb); clear b7; clear a4; clear a3; clear d3; clear d4; clear a7; clear a8; clear a6; clear b9; clear b1; clear HB; have b7 := d6; have a4 := d7; have a3 := d8; have d3 := d9; have d4 := e0; have a7 := e1; have a8 := e2; have a6 := e6; have b9 := e7; have b1 := f2; have HB := f6; clear d6 d7 d8 d9 e0 e1 e2 e6 e7 f2 f6; (try clear hb); (try clear n1); (try clear hk); (try clear hi); have Y4 := e4.out; have Y5 := e5.out; have P4 : y7.cell? ⟨b5, 0, none⟩ = some (.slice none 0 0) := (blk_cell a7.out 0).trans rfl; have P5 : y7.cell? ⟨b5, 1, none⟩ = some (.slice none 0 0) := (blk_cell a7.out 1).trans rfl; have P6 := blk_frozen a7.out 0; have P7 := blk_frozen a7.out 1; have P8 : y7.cell? ⟨b6, 0, none⟩ = some (.int .i64 b8) := (blk_cell a8.out 0).trans rfl; have P9 : y7.cell? ⟨b6, 1, none⟩ = some (.int .i64 b4) := (blk_cell a8.out 1).trans rfl; have Q0 := blk_frozen a8.out 0; have Q1 := blk_frozen a8.out 1))
                 refine bodyPost_ret (results_cc rfl _ _ b5 b6 50 46 #[.slice none 0 0, .slice none 0 0] #[.int .i64 23, .int .i64 ((rd_T66 a9 b0).f1)] (0, 0) (0, 0) _ _ rfl (by refine blk_far ?_ e4.out _; refine blk_far ?_ e4.out _; refine blk_put (cs := #[.slice none 0 0, .slice none 0 0]) ?_ 1 _ rfl; refine blk_put (cs := #[.slice none 0 0, .slice none 0 0]) ?_ 0 _ rfl; exact a7.out) Try.underlying50 rfl (by kernel_rfl) rfl (by refine blk_put (cs := #[.int .i64 23, .int .i64 b4]) ?_ 1 _ rfl; refine blk_put (cs := #[.int .i64 b8, .int .i64 b4]) ?_ 0 _ rfl; refine blk_far ?_ e5.out _; refine blk_far ?_ e5.out _; exact a8.out) Try.underlying46 rfl (by kernel_rfl)) rfl ?_
                 exact ⟨_, _, rfl, by first | exact Kd.S_nil _ _ _ _ _ | exact Kd.N_nil _ _ _ _ _ | exact Kd.V_nil _ _ _ _ _ | exact Kd.Q_nil _ _ _ _ _ | exact Kd.R_nil _ _ _ _ _, by first | exact Kd.S_nil _ _ _ _ _ | exact Kd.N_nil _ _ _ _ _ | exact Kd.V_nil _ _ _ _ _ | exact Kd.Q_nil _ _ _ _ _ | exact Kd.R_nil _ _ _ _ _, by repeat (first | (with_reducible first | exact HB.out | apply below_alloc | apply pw_below_drewN | apply below_drew1 | refine below_set ?_ d1.out | refine below_set ?_ d2.out | refine below_set ?_ d5.out | refine below_set ?_ g3.out) | exact HB.out)⟩
                ·replace x4 := Bool.eq_false_iff.mpr x4
                 subst x4
                 have H1 : (if a1.length < 2932031007402 then (pats_Parse.l0 g2 a9 b3 a2 (a1 ++ [(⟨c3, c8⟩ : S39)])) else (none)) = some (r1, r2, r3, r4) := by rw [if_neg (show ¬ (false = true) by decide)] at H; exact H
                 clear H
                 have H := H1
                 clear H1
                 by_cases y8 : a1.length < 2932031007402
                 ·rw [if_pos y8] at H
                  have D2 := Aside0.mk y8
                  clear y8
                  obtain ⟨o8, n3⟩ : ∃ y_ : List (S39), y_ = (a1 ++ [(⟨c3, c8⟩ : S39)]) := ⟨_, rfl⟩
                  replace H : (pats_Parse.l0 g2 a9 b3 a2 o8) = some (r1, r2, r3, r4) := by first | (rw [n3]; with_reducible exact H) | (have l8 := (Option.bind_some _ _).symm.trans H; rw [n3]; with_reducible exact l8) | (have l8 := (Option.bind_some _ _).symm.trans H; with_reducible exact l8) | with_reducible exact H | (rw [n3]; exact H) | exact H
                  have D3 := Aside0.mk n3
                  clear n3
                  have H' := Aside0.mk H
                  clear H
                  have g7 : 0 ≤ (b0 : Int) := of_decide_eq_true (by assumption)
                  have g8 : b0 < (a9.length : Int) := of_decide_eq_true (by assumption)
                  obtain ⟨j4, l5, m2, m3, m4⟩ := at_T66 (Kd.R_reads' b7.out).2.2 b0 g7 g8
                  obtain rfl : e3 = j4 := (by injection l5)
                  replace g7 := eq_true g7
                  replace g8 := eq_true g8
                  have Y6 := g4.out
                  have Y7 := f7.out
                  have Y8 := g5.out
                  have Y9 := f8.out
                  have Q2 : wc.cell? ⟨b2, 0, none⟩ = some (f3) := (blk_cell a6.out 0).trans rfl
                  have Q3 : wc.cell? ⟨b2, 1, none⟩ = some (f4) := (blk_cell a6.out 1).trans rfl
                  have Q4 := blk_frozen a6.out 0
                  have Q5 := blk_frozen a6.out 1
                  obtain ⟨h7, h8, G4⟩ := Kd.S_slice a4.out
                  subst G4
                  obtain ⟨h9, i0, G5⟩ := Kd.S_slice a3.out
                  subst G5
                  have B7 : (b3 : Int) ≤ ((a9.length : Int) : Int) := of_decide_eq_true (by assumption)
                  obtain ⟨i075, y9, _, z0, _⟩ := info_parts info66
                  have s3 : a9.length ≤ k8 := (Kd.R_reads' b7.out).2.1
                  have B8 : Kd.C k66 _ (some e3) a9.length a9 := (Kd.R_reads' b7.out).2.2
                  have G6 : (b0 : Int) ≤ (b3 : Int) := of_decide_eq_true (by assumption)
                  have G7 : (0 : Int) ≤ (b0 : Int) := of_decide_eq_true (by assumption)
                  have B9 := Hy.cut_max (P := Try.prog) 55 66 .i64 .i64 .i64 Try.underlying55 y9 3 z0 (some e3) a9.length k8 b0 b3 G7 G6 B7 s3
                  have q7 := Hy.C_max (lo := (b0 : Int).toNat) (hi := (b3 : Int).toNat) B8 (by omega) (by omega)
                  obtain ⟨u2, q8⟩ : ∃ A1, A1 = (if (b3 : Int).toNat = (b0 : Int).toNat then (some e3) else ((some e3) : Option Addr).map (·.add ((b0 : Int).toNat * 3))) := ⟨_, rfl⟩
                  have v5 : d0.length = (b3 : Int).toNat - (b0 : Int).toNat := (by rw [h1.out, List.length_drop, List.length_take] <;> omega)
                  rw [show ((a9).take (b3 : Int).toNat).drop (b0 : Int).toNat = d0 from h1.out.symm] at q7
                  replace q7 : Kd.C k66 _ u2 d0.length d0 := (by rw [q8]; exact q7)
                  rw [← v5, ← q8] at B9
                  have HCUT : Aside0 (∀ w1 : World, Kd.C k66 w1 (some e3) a9.length a9 → Kd.C k66 w1 u2 d0.length d0) := ⟨fun w1 hC => (by have hr := Hy.C_max (lo := (b0 : Int).toNat) (hi := (b3 : Int).toNat) hC (by omega) (by omega); rw [show ((a9).take (b3 : Int).toNat).drop (b0 : Int).toNat = d0 from h1.out.symm] at hr; rw [q8]; exact hr)⟩
                  have b9 := Aside0.mk q7
                  have j3 := Aside0.mk (Nat.le_refl d0.length)
                  clear q7 B8 s3 y9 z0
                  have ad2 := Aside0.mk v5
                  have G8 := Aside0.mk q8
                  clear v5 q8
                  have G9 := Aside0.mk (show (b3 : Int).toNat ≤ a9.length from by omega)
                  have H0 := Aside0.mk (show (b0 : Int).toNat ≤ (b3 : Int).toNat from by omega)
                  replace B7 := eq_true B7
                  go_wp2_with (first | ((with_reducible refine gate_callee (f := 52) rfl ?_); refine goesL_ (some 71) rfl rfl Try.func52 (by kernel_rfl) rfl #[.slice u2 d0.length d0.length] rfl (by (try simp only [List.map_toArray, List.map_cons, List.map_nil]); first | done | rfl | (simp only [List.length_drop, List.length_take]; rfl)) ?_; (with_reducible refine (pats_one.calls g2 _ _ d0 c3 c8 true _ ?side1 ?side2 x1.out).mono ?_); (case side1 => repeat (first | exact (by repeat (first | (with_reducible exact b9.out) | (with_reducible refine Kd.C_alloc ?_ _) | (with_reducible refine Kd.C_drewN ?_ _) | (with_reducible refine Kd.C_drew ?_) | exact b9.out)) | (with_reducible refine Kd.C_alloc ?_ _) | (with_reducible refine Kd.C_drewN ?_ _) | (with_reducible refine Kd.C_drew ?_))); (case side2 => exact j3.out); rintro e w76 ⟨v3, v4, rfl, i3, i9, hb⟩; refine ⟨_, rfl, ?_⟩; have d6 := Aside0.mk (Kd.R_below (by exact b7.out) hb); have d7 := Aside0.mk (Kd.S_mono (Kd.S_told (Kd.S_told (Kd.S_old (by exact a4.out) hb) (Kd.R_base i3)) (Kd.R_base i9)) (fun _ h_ => h_.1)); have d8 := Aside0.mk (Kd.S_mono (Kd.S_told (Kd.S_told (Kd.S_old (by exact a3.out) hb) (Kd.R_base i3)) (Kd.R_base i9)) (fun _ h_ => h_.1)); have d9 := Aside0.mk (Kd.R_lower i3 (below_size (by exact HB.out))); have e0 := Aside0.mk (Kd.R_lower i9 (below_size (by exact HB.out))); have e1 := Aside0.mk (blk_below (g := b5) (o := .cells #[.slice none 0 0, .slice none 0 0] 50 (0, 0)) (by exact a7.out) hb); have e2 := Aside0.mk (blk_below (g := b6) (o := .cells #[.int .i64 b8, .int .i64 b4] 46 (0, 0)) (by exact a8.out) hb); have e6 := Aside0.mk (blk_below (g := b2) (o := .cells #[.slice h7 a2.length h8, .slice h9 a1.length i0] 50 (0, 0)) (by exact a6.out) hb); have e7 := Aside0.mk (Kd.C_below (by repeat (first | (with_reducible exact b9.out) | (with_reducible refine Kd.C_alloc ?_ _) | (with_reducible refine Kd.C_drewN ?_ _) | (with_reducible refine Kd.C_drew ?_) | exact b9.out)) hb); have f2 := Aside0.mk (below_step (by exact HB.out) hb); clear b7; clear a4; clear a3; clear a7; clear a8; clear a6; clear b9; clear HB; have b7 := d6; have a4 := d7; have a3 := d8; have d3 := d9; have d4 := e0; have a7 := e1; have a8 := e2; have a6 := e6; have b9 := e7; have HB := f2; clear d6 d7 d8 d9 e0 e1 e2 e6 e7 f2; (try clear hb); (try clear n1); (try clear hk); (try clear hi); (try clear i3); (try clear i9)) | ((with_reducible refine gate_dst (N := 10) rfl ?_); refine box_event ?hg (N := 10) ?hd (cs := #[.slice none 0 0, .slice none 0 0]) (t := 39) ?hr ?_; (case hd => rfl); (case hg => rfl); (case hr => first | (go_simp; done) | (go_simp; rfl)); intro a5 hg F2 hbox hb; have d6 := Aside0.mk (Kd.R_below (by exact b7.out) hb); have d7 := Aside0.mk (Kd.S_below (Kd.S_elderB (by exact a4.out) a5 (Nat.le_of_eq hg.symm)) hb); have d8 := Aside0.mk (Kd.S_below (Kd.S_elderB (by exact a3.out) a5 (Nat.le_of_eq hg.symm)) hb); have d9 := Aside0.mk (Kd.R_below (by exact d3.out) hb); have e0 := Aside0.mk (Kd.R_below (by exact d4.out) hb); have e1 := Aside0.mk (blk_below (g := b5) (o := .cells #[.slice none 0 0, .slice none 0 0] 50 (0, 0)) (by exact a7.out) hb); have e2 := Aside0.mk (blk_below (g := b6) (o := .cells #[.int .i64 b8, .int .i64 b4] 46 (0, 0)) (by exact a8.out) hb); have e6 := Aside0.mk (blk_below (g := b2) (o := .cells #[.slice h7 a2.length h8, .slice h9 a1.length i0] 50 (0, 0)) (by exact a6.out) hb); have e7 := Aside0.mk (Kd.C_below (by repeat (first | (with_reducible exact b9.out) | (with_reducible refine Kd.C_alloc ?_ _) | (with_reducible refine Kd.C_drewN ?_ _) | (with_reducible refine Kd.C_drew ?_) | exact b9.out)) hb); have f2 := Aside0.mk (below_step (by exact HB.out) hb); have f6 := Aside0.mk (hbox); have j5 := Aside0.mk ((by rw [hg]; exact (below_size (by exact HB.out)) : w.heap.size ≤ a5)); have j6 := Aside0.mk ((by rw [hg]; exact (below_size (by exact HB.out)) : w.heap.size ≤ a5)); have j7 := Aside0.mk ((by rw [hg]; exact Nat.ne_of_lt (blk_lt (g := b5) (o := .cells #[.slice none 0 0, .slice none 0 0] 50 (0, 0)) (by exact a7.out)) : b5 ≠ a5)); have j8 := Aside0.mk ((by rw [hg]; exact Nat.ne_of_gt (blk_lt (g := b5) (o := .cells #[.slice none 0 0, .slice none 0 0] 50 (0, 0)) (by exact a7.out)) : a5 ≠ b5)); have j9 := Aside0.mk ((by rw [hg]; exact Nat.ne_of_lt (blk_lt (g := b6) (o := .cells #[.int .i64 b8, .int .i64 b4] 46 (0, 0)) (by exact a8.out)) : b6 ≠ a5)); have k0 := Aside0.mk ((by rw [hg]; exact Nat.ne_of_gt (blk_lt (g := b6) (o := .cells #[.int .i64 b8, .int .i64 b4] 46 (0, 0)) (by exact a8.out)) : a5 ≠ b6)); have k3 := Aside0.mk ((by rw [hg]; exact Nat.ne_of_lt (blk_lt (g := b2) (o := .cells #[.slice h7 a2.length h8, .slice h9 a1.length i0] 50 (0, 0)) (by exact a6.out)) : b2 ≠ a5)); have k4 := Aside0.mk ((by rw [hg]; exact Nat.ne_of_gt (blk_lt (g := b2) (o := .cells #[.slice h7 a2.length h8, .slice h9 a1.length i0] 50 (0, 0)) (by exact a6.out)) : a5 ≠ b2)); clear b7; clear a4; clear a3; clear d3; clear d4; clear a7; clear a8; clear a6; clear b9; clear HB; have b7 := d6; have a4 := d7; have a3 := d8; have d3 := d9; have d4 := e0; have a7 := e1; have a8 := e2; have a6 := e6; have b9 := e7; have HB := f2; have b1 := f6; have t1 := j5; have g3 := j6; have e8 := j7; have h4 := j8; have e9 := j9; have h5 := k0; have f5 := k3; have h6 := k4; clear d6 d7 d8 d9 e0 e1 e2 e6 e7 f2 f6 j5 j6 j7 j8 j9 k0 k3 k4; clear hb hbox hg; obtain ⟨i1, i2, H2⟩ := Kd.R_slice d3.out; subst H2; have Z0 := h4.out; have Z1 := e8.out; have Z2 := h5.out; have Z3 := e9.out; have Z4 := h6.out; have Z5 := f5.out; have Q6 : F2.cell? ⟨a5, 0, none⟩ = some (.slice none 0 0) := (blk_cell b1.out 0).trans rfl; have Q7 : F2.cell? ⟨a5, 1, none⟩ = some (.slice none 0 0) := (blk_cell b1.out 1).trans rfl; have Q8 := blk_frozen b1.out 0; have Q9 := blk_frozen b1.out 1; obtain ⟨i4, i5, H3⟩ := Kd.R_slice d4.out; subst H3) | ((with_reducible refine gate_callee (f := 53) rfl ?_); refine goesL_ (some 88) rfl rfl Try.func53 (by kernel_rfl) rfl #[.slice u2 d0.length d0.length] rfl (by (try simp only [List.map_toArray, List.map_cons, List.map_nil]); first | done | rfl | (simp only [List.length_drop, List.length_take]; rfl)) ?_; (with_reducible refine (pats_hyphened.calls _ _ d0 true _ ?side1 ?side2 B2.out).mono ?_); (case side1 => repeat (first | exact ((HCUT.out _ (Kd.R_reads' (by exact (Kd.R_mono (Kd.R_far (p := ⟨a5, 1, none⟩) (Kd.R_far (p := ⟨a5, 0, none⟩) (Kd.R_types b7.out b1.out (by decide)) (fun _ hk => hk.2) (.slice i1 c3.length i2)) (fun _ hk => hk.2) (.slice i4 c8.length i5)) (fun _ h_ => h_.1)))).2.2)) | (with_reducible refine Kd.C_alloc ?_ _) | (with_reducible refine Kd.C_drewN ?_ _) | (with_reducible refine Kd.C_drew ?_))); (case side2 => exact j3.out); rintro e z1 ⟨rfl, hb⟩; refine ⟨_, rfl, ?_⟩; have d6 := Aside0.mk (Kd.R_below (by exact (Kd.R_mono (Kd.R_far (p := ⟨a5, 1, none⟩) (Kd.R_far (p := ⟨a5, 0, none⟩) (Kd.R_types b7.out b1.out (by decide)) (fun _ hk => hk.2) (.slice i1 c3.length i2)) (fun _ hk => hk.2) (.slice i4 c8.length i5)) (fun _ h_ => h_.1))) hb); have d7 := Aside0.mk (Kd.S_below (by exact (Kd.S_mono (Kd.S_far (p := ⟨a5, 1, none⟩) (Kd.S_far (p := ⟨a5, 0, none⟩) (Kd.S_mono a4.out (fun k_ hk => (⟨hk, hk.2⟩ : _ ∧ k_ ≠ a5))) (fun _ hk => hk.2) (.slice i1 c3.length i2)) (fun _ hk => hk.2) (.slice i4 c8.length i5)) (fun _ h_ => h_.1))) hb); have d8 := Aside0.mk (Kd.S_below (by exact (Kd.S_mono (Kd.S_far (p := ⟨a5, 1, none⟩) (Kd.S_far (p := ⟨a5, 0, none⟩) (Kd.S_mono a3.out (fun k_ hk => (⟨hk, hk.2⟩ : _ ∧ k_ ≠ a5))) (fun _ hk => hk.2) (.slice i1 c3.length i2)) (fun _ hk => hk.2) (.slice i4 c8.length i5)) (fun _ h_ => h_.1))) hb); have d9 := Aside0.mk (Kd.R_below (by exact (Kd.R_mono (Kd.R_far (p := ⟨a5, 1, none⟩) (Kd.R_far (p := ⟨a5, 0, none⟩) (Kd.R_types d3.out b1.out (by decide)) (fun _ hk => hk.2) (.slice i1 c3.length i2)) (fun _ hk => hk.2) (.slice i4 c8.length i5)) (fun _ h_ => h_.1))) hb); have e0 := Aside0.mk (Kd.R_below (by exact (Kd.R_mono (Kd.R_far (p := ⟨a5, 1, none⟩) (Kd.R_far (p := ⟨a5, 0, none⟩) (Kd.R_types d4.out b1.out (by decide)) (fun _ hk => hk.2) (.slice i1 c3.length i2)) (fun _ hk => hk.2) (.slice i4 c8.length i5)) (fun _ h_ => h_.1))) hb); have e1 := Aside0.mk (blk_below (g := b5) (o := .cells #[.slice none 0 0, .slice none 0 0] 50 (0, 0)) (by refine blk_far ?_ e8.out _; refine blk_far ?_ e8.out _; exact a7.out) hb); have e2 := Aside0.mk (blk_below (g := b6) (o := .cells #[.int .i64 b8, .int .i64 b4] 46 (0, 0)) (by refine blk_far ?_ e9.out _; refine blk_far ?_ e9.out _; exact a8.out) hb); have e6 := Aside0.mk (blk_below (g := b2) (o := .cells #[.slice h7 a2.length h8, .slice h9 a1.length i0] 50 (0, 0)) (by refine blk_far ?_ f5.out _; refine blk_far ?_ f5.out _; exact a6.out) hb); have e7 := Aside0.mk (Kd.C_below ((HCUT.out _ (Kd.R_reads' (by exact (Kd.R_mono (Kd.R_far (p := ⟨a5, 1, none⟩) (Kd.R_far (p := ⟨a5, 0, none⟩) (Kd.R_types b7.out b1.out (by decide)) (fun _ hk => hk.2) (.slice i1 c3.length i2)) (fun _ hk => hk.2) (.slice i4 c8.length i5)) (fun _ h_ => h_.1)))).2.2)) hb); have f2 := Aside0.mk (blk_below (g := a5) (o := .cells #[.slice i1 c3.length i2, .slice i4 c8.length i5] 39 (0, 0)) (by refine blk_put (cs := #[.slice i1 c3.length i2, .slice none 0 0]) ?_ 1 _ rfl; refine blk_put (cs := #[.slice none 0 0, .slice none 0 0]) ?_ 0 _ rfl; exact b1.out) hb); have f6 := Aside0.mk (below_step (by repeat (first | (with_reducible first | exact HB.out | apply below_alloc | apply pw_below_drewN | apply below_drew1 | refine below_set ?_ d1.out | refine below_set ?_ d2.out | refine below_set ?_ d5.out | refine below_set ?_ g3.out) | exact HB.out)) hb); clear b7; clear a4; clear a3; clear d3; clear d4; clear a7; clear a8; clear a6; clear b9; clear b1; clear HB; have b7 := d6; have a4 := d7; have a3 := d8; have d3 := d9; have d4 := e0; have a7 := e1; have a8 := e2; have a6 := e6; have b9 := e7; have b1 := f2; have HB := f6; clear d6 d7 d8 d9 e0 e1 e2 e6 e7 f2 f6; (try clear hb); (try clear n1); (try clear hk); (try clear hi); have R0 : z1.cell? ⟨b2, 0, none⟩ = some (.slice h7 a2.length h8) := (blk_cell a6.out 0).trans rfl; have R1 : z1.cell? ⟨b2, 1, none⟩ = some (.slice h9 a1.length i0) := (blk_cell a6.out 1).trans rfl; have R2 := blk_frozen a6.out 0; have R3 := blk_frozen a6.out 1; have R4 : z1.cell? ⟨a5, 0, none⟩ = some (.slice i1 c3.length i2) := (blk_cell b1.out 0).trans rfl; have R5 : z1.cell? ⟨a5, 1, none⟩ = some (.slice i4 c8.length i5) := (blk_cell b1.out 1).trans rfl; have R6 := blk_frozen b1.out 0; have R7 := blk_frozen b1.out 1) | ((with_reducible refine gate_callee (f := 54) rfl ?_); refine goesL_ (some 100) rfl rfl Try.func54 (by kernel_rfl) rfl #[.slice h9 a1.length i0, .func (.func 55) #[] #[.pointer (some ⟨a5, 0, none⟩)]] rfl (by (try simp only [List.map_toArray, List.map_cons, List.map_nil]); first | done | rfl | (simp only [List.length_drop, List.length_take]; rfl)) ?_; refine (api_Pattern_54.calls _ _ a1 _ _ c3 _ _ c8 false _ ?side1 ?side2 ?side3 ?side4 ?side5 ?side6 (by exact b1.out) F0.out).mono ?_; (case side1 => repeat (first | exact (Kd.S_reads' a3.out).2.2 | (with_reducible refine Kd.C_alloc ?_ _) | (with_reducible refine Kd.C_drewN ?_ _) | (with_reducible refine Kd.C_drew ?_))); (case side2 => exact (Kd.S_reads' a3.out).2.1); (case side3 => repeat (first | exact (Kd.R_reads' d3.out).2.2 | (with_reducible refine Kd.C_alloc ?_ _) | (with_reducible refine Kd.C_drewN ?_ _) | (with_reducible refine Kd.C_drew ?_))); (case side4 => exact (Kd.R_reads' d3.out).2.1); (case side5 => repeat (first | exact (Kd.R_reads' d4.out).2.2 | (with_reducible refine Kd.C_alloc ?_ _) | (with_reducible refine Kd.C_drewN ?_ _) | (with_reducible refine Kd.C_drew ?_))); (case side6 => exact (Kd.R_reads' d4.out).2.1); rintro e z2 ⟨rfl, hb⟩; refine ⟨_, rfl, ?_⟩; have d6 := Aside0.mk (Kd.R_below (by exact b7.out) hb); have d7 := Aside0.mk (Kd.S_below (by exact a4.out) hb); have d8 := Aside0.mk (Kd.S_below (by exact a3.out) hb); have d9 := Aside0.mk (Kd.R_below (by exact d3.out) hb); have e0 := Aside0.mk (Kd.R_below (by exact d4.out) hb); have e1 := Aside0.mk (blk_below (g := b5) (o := .cells #[.slice none 0 0, .slice none 0 0] 50 (0, 0)) (by exact a7.out) hb); have e2 := Aside0.mk (blk_below (g := b6) (o := .cells #[.int .i64 b8, .int .i64 b4] 46 (0, 0)) (by exact a8.out) hb); have e6 := Aside0.mk (blk_below (g := b2) (o := .cells #[.slice h7 a2.length h8, .slice h9 a1.length i0] 50 (0, 0)) (by exact a6.out) hb); have e7 := Aside0.mk (Kd.C_below (by repeat (first | (with_reducible exact b9.out) | (with_reducible refine Kd.C_alloc ?_ _) | (with_reducible refine Kd.C_drewN ?_ _) | (with_reducible refine Kd.C_drew ?_) | exact b9.out)) hb); have f2 := Aside0.mk (blk_below (g := a5) (o := .cells #[.slice i1 c3.length i2, .slice i4 c8.length i5] 39 (0, 0)) (by exact b1.out) hb); have f6 := Aside0.mk (below_step (by exact HB.out) hb); clear b7; clear a4; clear a3; clear d3; clear d4; clear a7; clear a8; clear a6; clear b9; clear b1; clear HB; have b7 := d6; have a4 := d7; have a3 := d8; have d3 := d9; have d4 := e0; have a7 := e1; have a8 := e2; have a6 := e6; have b9 := e7; have b1 := f2; have HB := f6; clear d6 d7 d8 d9 e0 e1 e2 e6 e7 f2 f6; (try clear hb); (try clear n1); (try clear hk); (try clear hi); have R8 : z2.cell? ⟨b2, 0, none⟩ = some (.slice h7 a2.length h8) := (blk_cell a6.out 0).trans rfl; have R9 : z2.cell? ⟨b2, 1, none⟩ = some (.slice h9 a1.length i0) := (blk_cell a6.out 1).trans rfl; have S0 := blk_frozen a6.out 0; have S1 := blk_frozen a6.out 1; have S2 : z2.cell? ⟨a5, 0, none⟩ = some (.slice i1 c3.length i2) := (blk_cell b1.out 0).trans rfl; have S3 : z2.cell? ⟨a5, 1, none⟩ = some (.slice i4 c8.length i5) := (blk_cell b1.out 1).trans rfl; have S4 := blk_frozen b1.out 0; have S5 := blk_frozen b1.out 1) | ((with_reducible refine gate_builtin (b := .append) (xs := #[.tmp 75, .tmp 77]) rfl ?_); at_builtin; refine Kd.S_append k39 (w0 := w) w.heap.size rfl (.tmp 75) (.tmp 77) 22 39 (.agg #[(.slice none 0 0), (.slice none 0 0)]) 48 rfl Try.underlying22 info39 rfl (by decide) (by omega) (.slice h9 a1.length i0) a1 (⟨c3, c8⟩ : S39) [.slice i1 c3.length i2, .slice i4 c8.length i5] (fun k_ => some k_ ≠ (.slice h7 a2.length h8 : Value).ownBlock ∧ k_ ≠ a5) (fun k_ => some k_ = (.slice i1 c3.length i2 : Value).ownBlock ∨ some k_ = (.slice i4 c8.length i5 : Value).ownBlock) rfl rfl ?aP (fun k_ hk_ => hk_.elim (fun h_ => ((Kd.R_mono (ok' := fun k_ => ((fun k_ => some k_ ≠ (.slice h7 a2.length h8 : Value).ownBlock ∧ k_ ≠ a5)) k_ ∧ some k_ ≠ (.slice h9 a1.length i0 : Value).ownBlock) (Kd.R_types (Kd.R_apart' (Kd.R_apart' (d3.out) (Kd.S_typed a4.out) (by decide)) (Kd.S_typed a3.out) (by decide)) b1.out (by decide)) (fun k_ hk => ⟨⟨hk.1.1.2, hk.2⟩, hk.1.2⟩))).1 k_ h_.symm) (fun h_ => ((Kd.R_mono (ok' := fun k_ => ((fun k_ => some k_ ≠ (.slice h7 a2.length h8 : Value).ownBlock ∧ k_ ≠ a5)) k_ ∧ some k_ ≠ (.slice h9 a1.length i0 : Value).ownBlock) (Kd.R_types (Kd.R_apart' (Kd.R_apart' (d4.out) (Kd.S_typed a4.out) (by decide)) (Kd.S_typed a3.out) (by decide)) b1.out (by decide)) (fun k_ hk => ⟨⟨hk.1.1.2, hk.2⟩, hk.1.2⟩))).1 k_ h_.symm)) ?aF ?aO ?aB ?aS ?aL ?_; (case aP => exact k39_mkM _ _ _ (⟨c3, c8⟩ : S39) (Kd.R_mono (Kd.R_tight rfl (Kd.R_mono (ok' := fun k_ => ((fun k_ => some k_ ≠ (.slice h7 a2.length h8 : Value).ownBlock ∧ k_ ≠ a5)) k_ ∧ some k_ ≠ (.slice h9 a1.length i0 : Value).ownBlock) (Kd.R_types (Kd.R_apart' (Kd.R_apart' (d3.out) (Kd.S_typed a4.out) (by decide)) (Kd.S_typed a3.out) (by decide)) b1.out (by decide)) (fun k_ hk => ⟨⟨hk.1.1.2, hk.2⟩, hk.1.2⟩))) (fun _ h_ => Or.inl h_)) (Kd.R_mono (Kd.R_tight rfl (Kd.R_mono (ok' := fun k_ => ((fun k_ => some k_ ≠ (.slice h7 a2.length h8 : Value).ownBlock ∧ k_ ≠ a5)) k_ ∧ some k_ ≠ (.slice h9 a1.length i0 : Value).ownBlock) (Kd.R_types (Kd.R_apart' (Kd.R_apart' (d4.out) (Kd.S_typed a4.out) (by decide)) (Kd.S_typed a3.out) (by decide)) b1.out (by decide)) (fun k_ hk => ⟨⟨hk.1.1.2, hk.2⟩, hk.1.2⟩))) (fun _ h_ => Or.inr (h_)))); (case aB => exact (by exact HB.out)); (case aF => exact (fun k_ hk => ⟨Kd.fresh' (Kd.S_lt (by exact a4.out)) k_ hk, Kd.freshB (g := a5) (o := .cells #[.slice i1 c3.length i2, .slice i4 c8.length i5] 39 (0, 0)) (by exact b1.out) k_ hk⟩)); (case aO => exact (by exact Kd.S_mono a3.out (fun k_ hk => ⟨⟨hk.1.1.1, hk.2⟩, fun e_ => e_.elim (fun h_ => hk.1.1.2 h_) (fun h_ => hk.1.2 h_)⟩))); (case aS => exact (below_size (by exact HB.out))); (case aL => have := D2.out; omega); intro ad3 C0 ho hb hg hat; rw [← D3.out] at ho; have d6 := Aside0.mk (Kd.R_over' (by exact b7.out) (Kd.S_typed (by exact a3.out)) (by decide) hg); have d7 := Aside0.mk (Kd.S_after (ok := (fun k_ => some k_ ≠ (.slice i1 c3.length i2 : Value).ownBlock ∧ some k_ ≠ (.slice i4 c8.length i5 : Value).ownBlock ∧ k_ ≠ a5)) (by exact Kd.S_mono a4.out (fun _ hk => ⟨⟨hk.1.1.2, ⟨hk.1.2, hk.2⟩⟩, hk.1.1.1⟩)) hg hat); have d8 := Aside0.mk (blk_grown (g := b5) (o := .cells #[.slice none 0 0, .slice none 0 0] 50 (0, 0)) (by exact a7.out) hg (Kd.S_ne a3.out a7.out (by decide))); have d9 := Aside0.mk (blk_grown (g := b6) (o := .cells #[.int .i64 b8, .int .i64 b4] 46 (0, 0)) (by exact a8.out) hg (Kd.S_ne a3.out a8.out (by decide))); have e0 := Aside0.mk (blk_grown (g := b2) (o := .cells #[.slice h7 a2.length h8, .slice h9 a1.length i0] 50 (0, 0)) (by exact a6.out) hg (Kd.S_ne a3.out a6.out (by decide))); have e1 := Aside0.mk (blk_grown (g := a5) (o := .cells #[.slice i1 c3.length i2, .slice i4 c8.length i5] 39 (0, 0)) (by exact b1.out) hg (Kd.S_away a3.out (fun _ hk => hk.2))); have e2 := Aside0.mk (hb); have e6 := Aside0.mk ((show Kd.C k66 C0 u2 d0.length d0 from by rw [h1.out, G8.out]; exact Hy.C_max (lo := (b0 : Int).toNat) (hi := (b3 : Int).toNat) ((Kd.R_reads' (Kd.R_over' (by exact b7.out) (Kd.S_typed (by exact a3.out)) (by decide) hg)).2.2) H0.out G9.out)); have e7 := Aside0.mk (ho); clear b7; clear a4; clear a7; clear a8; clear a6; clear b1; clear HB; clear b9; clear a3; clear d3; clear d4; have b7 := d6; have a4 := d7; have a7 := d8; have a8 := d9; have a6 := e0; have b1 := e1; have HB := e2; have b9 := e6; have z3 := e7; clear d6 d7 d8 d9 e0 e1 e2 e6 e7; clear ho hb hg hat; obtain ⟨t2, t3, H4⟩ := Kd.S_slice z3.out; subst H4; have S6 : C0.cell? ⟨b2, 0, none⟩ = some (.slice h7 a2.length h8) := (blk_cell a6.out 0).trans rfl; have S7 : C0.cell? ⟨b2, 1, none⟩ = some (.slice h9 a1.length i0) := (blk_cell a6.out 1).trans rfl; have S8 := blk_frozen a6.out 0; have S9 := blk_frozen a6.out 1))
                  go_roundg g2
                  case measure => have := m5.out; have := t0.out; omega
                  case rel => exact ⟨(b3), (b8), (b4), (a2), (o8), (.slice h7 a2.length h8), (.slice t2 o8.length t3), (rfl), H', ⟨by have := m5.out; have := t0.out; omega⟩, ⟨by exact Kd.R_mono (Kd.R_far (p := ⟨b2, 1, none⟩) (Kd.R_types b7.out a6.out (by decide)) (fun _ hk => hk.2) (.slice t2 o8.length t3)) (fun _ hk => trivial)⟩, ⟨by exact Kd.S_mono (Kd.S_far (p := ⟨b2, 1, none⟩) (Kd.S_types a4.out a6.out (by decide)) (fun _ hk => hk.2) (.slice t2 o8.length t3)) (fun _ hk => hk.1.2)⟩, ⟨by exact Kd.S_mono (Kd.S_far (p := ⟨b2, 1, none⟩) (Kd.S_types z3.out a6.out (by decide)) (fun _ hk => hk.2) (.slice t2 o8.length t3)) (fun _ hk => hk.1.1)⟩, ⟨by refine blk_far ?_ f7.out _; exact a7.out⟩, ⟨by refine blk_far ?_ f8.out _; exact a8.out⟩, ⟨by refine blk_put (cs := #[.slice h7 a2.length h8, .slice h9 a1.length i0]) ?_ 1 _ rfl; exact a6.out⟩, ⟨by repeat (first | (with_reducible first | exact HB.out | apply below_alloc | apply pw_below_drewN | apply below_drew1 | refine below_set ?_ d1.out | refine below_set ?_ d2.out | refine below_set ?_ d5.out | refine below_set ?_ g3.out) | exact HB.out)⟩⟩
                 ·rw [if_neg y8] at H
                  exact absurd H (by simp)
               ·replace x3 := Bool.eq_false_iff.mpr x3
                subst x3
                have H1 : (if a2.length < 2932031007402 then (pats_Parse.l0 g2 a9 b3 (a2 ++ [(⟨c3, c8⟩ : S39)]) a1) else (none)) = some (r1, r2, r3, r4) := by rw [if_neg (show ¬ (false = true) by decide)] at H; exact H
                clear H
                have H := H1
                clear H1
                by_cases z4 : a2.length < 2932031007402
                ·rw [if_pos z4] at H
                 have D4 := Aside0.mk z4
                 clear z4
                 obtain ⟨o9, n4⟩ : ∃ y_ : List (S39), y_ = (a2 ++ [(⟨c3, c8⟩ : S39)]) := ⟨_, rfl⟩
                 replace H : (pats_Parse.l0 g2 a9 b3 o9 a1) = some (r1, r2, r3, r4) := by first | (rw [n4]; with_reducible exact H) | (have l8 := (Option.bind_some _ _).symm.trans H; rw [n4]; with_reducible exact l8) | (have l8 := (Option.bind_some _ _).symm.trans H; with_reducible exact l8) | with_reducible exact H | (rw [n4]; exact H) | exact H
                 have D5 := Aside0.mk n4
                 clear n4
                 have H' := Aside0.mk H
                 clear H
                 have g7 : 0 ≤ (b0 : Int) := of_decide_eq_true (by assumption)
                 have g8 : b0 < (a9.length : Int) := of_decide_eq_true (by assumption)
                 obtain ⟨j4, l5, m2, m3, m4⟩ := at_T66 (Kd.R_reads' b7.out).2.2 b0 g7 g8
                 obtain rfl : e3 = j4 := (by injection l5)
                 replace g7 := eq_true g7
                 replace g8 := eq_true g8
                 have Z6 := g4.out
                 have Z7 := f7.out
                 have Z8 := g5.out
                 have Z9 := f8.out
                 have T0 : wc.cell? ⟨b2, 0, none⟩ = some (f3) := (blk_cell a6.out 0).trans rfl
                 have T1 : wc.cell? ⟨b2, 1, none⟩ = some (f4) := (blk_cell a6.out 1).trans rfl
                 have T2 := blk_frozen a6.out 0
                 have T3 := blk_frozen a6.out 1
                 obtain ⟨j0, j1, H5⟩ := Kd.S_slice a4.out
                 subst H5
                 obtain ⟨i6, i7, H6⟩ := Kd.S_slice a3.out
                 subst H6
                 have C1 : (b3 : Int) ≤ ((a9.length : Int) : Int) := of_decide_eq_true (by assumption)
                 obtain ⟨i099, z5, _, z6, _⟩ := info_parts info66
                 have s4 : a9.length ≤ k8 := (Kd.R_reads' b7.out).2.1
                 have C2 : Kd.C k66 _ (some e3) a9.length a9 := (Kd.R_reads' b7.out).2.2
                 have H7 : (b0 : Int) ≤ (b3 : Int) := of_decide_eq_true (by assumption)
                 have H8 : (0 : Int) ≤ (b0 : Int) := of_decide_eq_true (by assumption)
                 have C3 := Hy.cut_max (P := Try.prog) 55 66 .i64 .i64 .i64 Try.underlying55 z5 3 z6 (some e3) a9.length k8 b0 b3 H8 H7 C1 s4
                 have q9 := Hy.C_max (lo := (b0 : Int).toNat) (hi := (b3 : Int).toNat) C2 (by omega) (by omega)
                 obtain ⟨u3, r0⟩ : ∃ A1, A1 = (if (b3 : Int).toNat = (b0 : Int).toNat then (some e3) else ((some e3) : Option Addr).map (·.add ((b0 : Int).toNat * 3))) := ⟨_, rfl⟩
                 have v8 : d0.length = (b3 : Int).toNat - (b0 : Int).toNat := (by rw [h1.out, List.length_drop, List.length_take] <;> omega)
                 rw [show ((a9).take (b3 : Int).toNat).drop (b0 : Int).toNat = d0 from h1.out.symm] at q9
                 replace q9 : Kd.C k66 _ u3 d0.length d0 := (by rw [r0]; exact q9)
                 rw [← v8, ← r0] at C3
                 have HCUT : Aside0 (∀ w1 : World, Kd.C k66 w1 (some e3) a9.length a9 → Kd.C k66 w1 u3 d0.length d0) := ⟨fun w1 hC => (by have hr := Hy.C_max (lo := (b0 : Int).toNat) (hi := (b3 : Int).toNat) hC (by omega) (by omega); rw [show ((a9).take (b3 : Int).toNat).drop (b0 : Int).toNat = d0 from h1.out.symm] at hr; rw [r0]; exact hr)⟩
                 have b9 := Aside0.mk q9
                 have j3 := Aside0.mk (Nat.le_refl d0.length)
                 clear q9 C2 s4 z5 z6
                 have ad4 := Aside0.mk v8
                 have H9 := Aside0.mk r0
                 clear v8 r0
                 have I0 := Aside0.mk (show (b3 : Int).toNat ≤ a9.length from by omega)
                 have I1 := Aside0.mk (show (b0 : Int).toNat ≤ (b3 : Int).toNat from by omega)
                 replace C1 := eq_true C1
                 go_wp2_with (first | ((with_reducible refine gate_callee (f := 52) rfl ?_); refine goesL_ (some 71) rfl rfl Try.func52 (by kernel_rfl) rfl #[.slice u3 d0.length d0.length] rfl (by (try simp only [List.map_toArray, List.map_cons, List.map_nil]); first | done | rfl | (simp only [List.length_drop, List.length_take]; rfl)) ?_; (with_reducible refine (pats_one.calls g2 _ _ d0 c3 c8 true _ ?side1 ?side2 x1.out).mono ?_); (case side1 => repeat (first | exact (by repeat (first | (with_reducible exact b9.out) | (with_reducible refine Kd.C_alloc ?_ _) | (with_reducible refine Kd.C_drewN ?_ _) | (with_reducible refine Kd.C_drew ?_) | exact b9.out)) | (with_reducible refine Kd.C_alloc ?_ _) | (with_reducible refine Kd.C_drewN ?_ _) | (with_reducible refine Kd.C_drew ?_))); (case side2 => exact j3.out); rintro e ad5 ⟨v3, v4, rfl, i3, i9, hb⟩; refine ⟨_, rfl, ?_⟩; have d6 := Aside0.mk (Kd.R_below (by exact b7.out) hb); have d7 := Aside0.mk (Kd.S_mono (Kd.S_told (Kd.S_told (Kd.S_old (by exact a4.out) hb) (Kd.R_base i3)) (Kd.R_base i9)) (fun _ h_ => h_.1)); have d8 := Aside0.mk (Kd.S_mono (Kd.S_told (Kd.S_told (Kd.S_old (by exact a3.out) hb) (Kd.R_base i3)) (Kd.R_base i9)) (fun _ h_ => h_.1)); have d9 := Aside0.mk (Kd.R_lower i3 (below_size (by exact HB.out))); have e0 := Aside0.mk (Kd.R_lower i9 (below_size (by exact HB.out))); have e1 := Aside0.mk (blk_below (g := b5) (o := .cells #[.slice none 0 0, .slice none 0 0] 50 (0, 0)) (by exact a7.out) hb); have e2 := Aside0.mk (blk_below (g := b6) (o := .cells #[.int .i64 b8, .int .i64 b4] 46 (0, 0)) (by exact a8.out) hb); have e6 := Aside0.mk (blk_below (g := b2) (o := .cells #[.slice j0 a2.length j1, .slice i6 a1.length i7] 50 (0, 0)) (by exact a6.out) hb); have e7 := Aside0.mk (Kd.C_below (by repeat (first | (with_reducible exact b9.out) | (with_reducible refine Kd.C_alloc ?_ _) | (with_reducible refine Kd.C_drewN ?_ _) | (with_reducible refine Kd.C_drew ?_) | exact b9.out)) hb); have f2 := Aside0.mk (below_step (by exact HB.out) hb); clear b7; clear a4; clear a3; clear a7; clear a8; clear a6; clear b9; clear HB; have b7 := d6; have a4 := d7; have a3 := d8; have d3 := d9; have d4 := e0; have a7 := e1; have a8 := e2; have a6 := e6; have b9 := e7; have HB := f2; clear d6 d7 d8 d9 e0 e1 e2 e6 e7 f2; (try clear hb); (try clear n1); (try clear hk); (try clear hi); (try clear i3); (try clear i9)) | ((with_reducible refine gate_dst (N := 10) rfl ?_); refine box_event ?hg (N := 10) ?hd (cs := #[.slice none 0 0, .slice none 0 0]) (t := 39) ?hr ?_; (case hd => rfl); (case hg => rfl); (case hr => first | (go_simp; done) | (go_simp; rfl)); intro a5 hg C4 hbox hb; have d6 := Aside0.mk (Kd.R_below (by exact b7.out) hb); have d7 := Aside0.mk (Kd.S_below (Kd.S_elderB (by exact a4.out) a5 (Nat.le_of_eq hg.symm)) hb); have d8 := Aside0.mk (Kd.S_below (Kd.S_elderB (by exact a3.out) a5 (Nat.le_of_eq hg.symm)) hb); have d9 := Aside0.mk (Kd.R_below (by exact d3.out) hb); have e0 := Aside0.mk (Kd.R_below (by exact d4.out) hb); have e1 := Aside0.mk (blk_below (g := b5) (o := .cells #[.slice none 0 0, .slice none 0 0] 50 (0, 0)) (by exact a7.out) hb); have e2 := Aside0.mk (blk_below (g := b6) (o := .cells #[.int .i64 b8, .int .i64 b4] 46 (0, 0)) (by exact a8.out) hb); have e6 := Aside0.mk (blk_below (g := b2) (o := .cells #[.slice j0 a2.length j1, .slice i6 a1.length i7] 50 (0, 0)) (by exact a6.out) hb); have e7 := Aside0.mk (Kd.C_below (by repeat (first | (with_reducible exact b9.out) | (with_reducible refine Kd.C_alloc ?_ _) | (with_reducible refine Kd.C_drewN ?_ _) | (with_reducible refine Kd.C_drew ?_) | exact b9.out)) hb); have f2 := Aside0.mk (below_step (by exact HB.out) hb); have f6 := Aside0.mk (hbox); have j5 := Aside0.mk ((by rw [hg]; exact (below_size (by exact HB.out)) : w.heap.size ≤ a5)); have j6 := Aside0.mk ((by rw [hg]; exact (below_size (by exact HB.out)) : w.heap.size ≤ a5)); have j7 := Aside0.mk ((by rw [hg]; exact Nat.ne_of_lt (blk_lt (g := b5) (o := .cells #[.slice none 0 0, .slice none 0 0] 50 (0, 0)) (by exact a7.out)) : b5 ≠ a5)); have j8 := Aside0.mk ((by rw [hg]; exact Nat.ne_of_gt (blk_lt (g := b5) (o := .cells #[.slice none 0 0, .slice none 0 0] 50 (0, 0)) (by exact a7.out)) : a5 ≠ b5)); have j9 := Aside0.mk ((by rw [hg]; exact Nat.ne_of_lt (blk_lt (g := b6) (o := .cells #[.int .i64 b8, .int .i64 b4] 46 (0, 0)) (by exact a8.out)) : b6 ≠ a5)); have k0 := Aside0.mk ((by rw [hg]; exact Nat.ne_of_gt (blk_lt (g := b6) (o := .cells #[.int .i64 b8, .int .i64 b4] 46 (0, 0)) (by exact a8.out)) : a5 ≠ b6)); have k3 := Aside0.mk ((by rw [hg]; exact Nat.ne_of_lt (blk_lt (g := b2) (o := .cells #[.slice j0 a2.length j1, .slice i6 a1.length i7] 50 (0, 0)) (by exact a6.out)) : b2 ≠ a5)); have k4 := Aside0.mk ((by rw [hg]; exact Nat.ne_of_gt (blk_lt (g := b2) (o := .cells #[.slice j0 a2.length j1, .slice i6 a1.length i7] 50 (0, 0)) (by exact a6.out)) : a5 ≠ b2)); clear b7; clear a4; clear a3; clear d3; clear d4; clear a7; clear a8; clear a6; clear b9; clear HB; have b7 := d6; have a4 := d7; have a3 := d8; have d3 := d9; have d4 := e0; have a7 := e1; have a8 := e2; have a6 := e6; have b9 := e7; have HB := f2; have b1 := f6; have t1 := j5; have g3 := j6; have e8 := j7; have h4 := j8; have e9 := j9; have h5 := k0; have f5 := k3; have h6 := k4; clear d6 d7 d8 d9 e0 e1 e2 e6 e7 f2 f6 j5 j6 j7 j8 j9 k0 k3 k4; clear hb hbox hg; obtain ⟨g9, h0, D6⟩ := Kd.R_slice d3.out; subst D6; have T7 := h4.out; have T8 := e8.out; have T9 := h5.out; have U0 := e9.out; have U1 := h6.out; have U2 := f5.out; have I2 : C4.cell? ⟨a5, 0, none⟩ = some (.slice none 0 0) := (blk_cell b1.out 0).trans rfl; have I3 : C4.cell? ⟨a5, 1, none⟩ = some (.slice none 0 0) := (blk_cell b1.out 1).trans rfl; have I4 := blk_frozen b1.out 0; have I5 := blk_frozen b1.out 1; obtain ⟨h2, h3, D7⟩ := Kd.R_slice d4.out; subst D7) | ((with_reducible refine gate_callee (f := 53) rfl ?_); refine goesL_ (some 88) rfl rfl Try.func53 (by kernel_rfl) rfl #[.slice u3 d0.length d0.length] rfl (by (try simp only [List.map_toArray, List.map_cons, List.map_nil]); first | done | rfl | (simp only [List.length_drop, List.length_take]; rfl)) ?_; (with_reducible refine (pats_hyphened.calls _ _ d0 false _ ?side1 ?side2 B2.out).mono ?_); (case side1 => repeat (first | exact ((HCUT.out _ (Kd.R_reads' (by exact (Kd.R_mono (Kd.R_far (p := ⟨a5, 1, none⟩) (Kd.R_far (p := ⟨a5, 0, none⟩) (Kd.R_types b7.out b1.out (by decide)) (fun _ hk => hk.2) (.slice g9 c3.length h0)) (fun _ hk => hk.2) (.slice h2 c8.length h3)) (fun _ h_ => h_.1)))).2.2)) | (with_reducible refine Kd.C_alloc ?_ _) | (with_reducible refine Kd.C_drewN ?_ _) | (with_reducible refine Kd.C_drew ?_))); (case side2 => exact j3.out); rintro e t4 ⟨rfl, hb⟩; refine ⟨_, rfl, ?_⟩; have d6 := Aside0.mk (Kd.R_below (by exact (Kd.R_mono (Kd.R_far (p := ⟨a5, 1, none⟩) (Kd.R_far (p := ⟨a5, 0, none⟩) (Kd.R_types b7.out b1.out (by decide)) (fun _ hk => hk.2) (.slice g9 c3.length h0)) (fun _ hk => hk.2) (.slice h2 c8.length h3)) (fun _ h_ => h_.1))) hb); have d7 := Aside0.mk (Kd.S_below (by exact (Kd.S_mono (Kd.S_far (p := ⟨a5, 1, none⟩) (Kd.S_far (p := ⟨a5, 0, none⟩) (Kd.S_mono a4.out (fun k_ hk => (⟨hk, hk.2⟩ : _ ∧ k_ ≠ a5))) (fun _ hk => hk.2) (.slice g9 c3.length h0)) (fun _ hk => hk.2) (.slice h2 c8.length h3)) (fun _ h_ => h_.1))) hb); have d8 := Aside0.mk (Kd.S_below (by exact (Kd.S_mono (Kd.S_far (p := ⟨a5, 1, none⟩) (Kd.S_far (p := ⟨a5, 0, none⟩) (Kd.S_mono a3.out (fun k_ hk => (⟨hk, hk.2⟩ : _ ∧ k_ ≠ a5))) (fun _ hk => hk.2) (.slice g9 c3.length h0)) (fun _ hk => hk.2) (.slice h2 c8.length h3)) (fun _ h_ => h_.1))) hb); have d9 := Aside0.mk (Kd.R_below (by exact (Kd.R_mono (Kd.R_far (p := ⟨a5, 1, none⟩) (Kd.R_far (p := ⟨a5, 0, none⟩) (Kd.R_types d3.out b1.out (by decide)) (fun _ hk => hk.2) (.slice g9 c3.length h0)) (fun _ hk => hk.2) (.slice h2 c8.length h3)) (fun _ h_ => h_.1))) hb); have e0 := Aside0.mk (Kd.R_below (by exact (Kd.R_mono (Kd.R_far (p := ⟨a5, 1, none⟩) (Kd.R_far (p := ⟨a5, 0, none⟩) (Kd.R_types d4.out b1.out (by decide)) (fun _ hk => hk.2) (.slice g9 c3.length h0)) (fun _ hk => hk.2) (.slice h2 c8.length h3)) (fun _ h_ => h_.1))) hb); have e1 := Aside0.mk (blk_below (g := b5) (o := .cells #[.slice none 0 0, .slice none 0 0] 50 (0, 0)) (by refine blk_far ?_ e8.out _; refine blk_far ?_ e8.out _; exact a7.out) hb); have e2 := Aside0.mk (blk_below (g := b6) (o := .cells #[.int .i64 b8, .int .i64 b4] 46 (0, 0)) (by refine blk_far ?_ e9.out _; refine blk_far ?_ e9.out _; exact a8.out) hb); have e6 := Aside0.mk (blk_below (g := b2) (o := .cells #[.slice j0 a2.length j1, .slice i6 a1.length i7] 50 (0, 0)) (by refine blk_far ?_ f5.out _; refine blk_far ?_ f5.out _; exact a6.out) hb); have e7 := Aside0.mk (Kd.C_below ((HCUT.out _ (Kd.R_reads' (by exact (Kd.R_mono (Kd.R_far (p := ⟨a5, 1, none⟩) (Kd.R_far (p := ⟨a5, 0, none⟩) (Kd.R_types b7.out b1.out (by decide)) (fun _ hk => hk.2) (.slice g9 c3.length h0)) (fun _ hk => hk.2) (.slice h2 c8.length h3)) (fun _ h_ => h_.1)))).2.2)) hb); have f2 := Aside0.mk (blk_below (g := a5) (o := .cells #[.slice g9 c3.length h0, .slice h2 c8.length h3] 39 (0, 0)) (by refine blk_put (cs := #[.slice g9 c3.length h0, .slice none 0 0]) ?_ 1 _ rfl; refine blk_put (cs := #[.slice none 0 0, .slice none 0 0]) ?_ 0 _ rfl; exact b1.out) hb); have f6 := Aside0.mk (below_step (by repeat (first | (with_reducible first | exact HB.out | apply below_alloc | apply pw_below_drewN | apply below_drew1 | refine below_set ?_ d1.out | refine below_set ?_ d2.out | refine below_set ?_ d5.out | refine below_set ?_ g3.out) | exact HB.out)) hb); clear b7; clear a4; clear a3; clear d3; clear d4; clear a7; clear a8; clear a6; clear b9; clear b1; clear HB; have b7 := d6; have a4 := d7; have a3 := d8; have d3 := d9; have d4 := e0; have a7 := e1; have a8 := e2; have a6 := e6; have b9 := e7; have b1 := f2; have HB := f6; clear d6 d7 d8 d9 e0 e1 e2 e6 e7 f2 f6; (try clear hb); (try clear n1); (try clear hk); (try clear hi); have I6 : t4.cell? ⟨b2, 0, none⟩ = some (.slice j0 a2.length j1) := (blk_cell a6.out 0).trans rfl; have I7 : t4.cell? ⟨b2, 1, none⟩ = some (.slice i6 a1.length i7) := (blk_cell a6.out 1).trans rfl; have I8 := blk_frozen a6.out 0; have I9 := blk_frozen a6.out 1; have J0 : t4.cell? ⟨a5, 0, none⟩ = some (.slice g9 c3.length h0) := (blk_cell b1.out 0).trans rfl; have J1 : t4.cell? ⟨a5, 1, none⟩ = some (.slice h2 c8.length h3) := (blk_cell b1.out 1).trans rfl; have J2 := blk_frozen b1.out 0; have J3 := blk_frozen b1.out 1) | ((with_reducible refine gate_builtin (b := .append) (xs := #[.tmp 91, .tmp 93]) rfl ?_); at_builtin; refine Kd.S_append k39 (w0 := w) w.heap.size rfl (.tmp 91) (.tmp 93) 22 39 (.agg #[(.slice none 0 0), (.slice none 0 0)]) 48 rfl Try.underlying22 info39 rfl (by decide) (by omega) (.slice j0 a2.length j1) a2 (⟨c3, c8⟩ : S39) [.slice g9 c3.length h0, .slice h2 c8.length h3] (fun k_ => some k_ ≠ (.slice i6 a1.length i7 : Value).ownBlock ∧ k_ ≠ a5) (fun k_ => some k_ = (.slice g9 c3.length h0 : Value).ownBlock ∨ some k_ = (.slice h2 c8.length h3 : Value).ownBlock) rfl rfl ?aP (fun k_ hk_ => hk_.elim (fun h_ => ((Kd.R_mono (ok' := fun k_ => ((fun k_ => some k_ ≠ (.slice i6 a1.length i7 : Value).ownBlock ∧ k_ ≠ a5)) k_ ∧ some k_ ≠ (.slice j0 a2.length j1 : Value).ownBlock) (Kd.R_types (Kd.R_apart' (Kd.R_apart' (d3.out) (Kd.S_typed a3.out) (by decide)) (Kd.S_typed a4.out) (by decide)) b1.out (by decide)) (fun k_ hk => ⟨⟨hk.1.1.2, hk.2⟩, hk.1.2⟩))).1 k_ h_.symm) (fun h_ => ((Kd.R_mono (ok' := fun k_ => ((fun k_ => some k_ ≠ (.slice i6 a1.length i7 : Value).ownBlock ∧ k_ ≠ a5)) k_ ∧ some k_ ≠ (.slice j0 a2.length j1 : Value).ownBlock) (Kd.R_types (Kd.R_apart' (Kd.R_apart' (d4.out) (Kd.S_typed a3.out) (by decide)) (Kd.S_typed a4.out) (by decide)) b1.out (by decide)) (fun k_ hk => ⟨⟨hk.1.1.2, hk.2⟩, hk.1.2⟩))).1 k_ h_.symm)) ?aF ?aO ?aB ?aS ?aL ?_; (case aP => exact k39_mkM _ _ _ (⟨c3, c8⟩ : S39) (Kd.R_mono (Kd.R_tight rfl (Kd.R_mono (ok' := fun k_ => ((fun k_ => some k_ ≠ (.slice i6 a1.length i7 : Value).ownBlock ∧ k_ ≠ a5)) k_ ∧ some k_ ≠ (.slice j0 a2.length j1 : Value).ownBlock) (Kd.R_types (Kd.R_apart' (Kd.R_apart' (d3.out) (Kd.S_typed a3.out) (by decide)) (Kd.S_typed a4.out) (by decide)) b1.out (by decide)) (fun k_ hk => ⟨⟨hk.1.1.2, hk.2⟩, hk.1.2⟩))) (fun _ h_ => Or.inl h_)) (Kd.R_mono (Kd.R_tight rfl (Kd.R_mono (ok' := fun k_ => ((fun k_ => some k_ ≠ (.slice i6 a1.length i7 : Value).ownBlock ∧ k_ ≠ a5)) k_ ∧ some k_ ≠ (.slice j0 a2.length j1 : Value).ownBlock) (Kd.R_types (Kd.R_apart' (Kd.R_apart' (d4.out) (Kd.S_typed a3.out) (by decide)) (Kd.S_typed a4.out) (by decide)) b1.out (by decide)) (fun k_ hk => ⟨⟨hk.1.1.2, hk.2⟩, hk.1.2⟩))) (fun _ h_ => Or.inr (h_)))); (case aB => exact (by exact HB.out)); (case aF => exact (fun k_ hk => ⟨Kd.fresh' (Kd.S_lt (by exact a3.out)) k_ hk, Kd.freshB (g := a5) (o := .cells #[.slice g9 c3.length h0, .slice h2 c8.length h3] 39 (0, 0)) (by exact b1.out) k_ hk⟩)); (case aO => exact (by exact Kd.S_mono a4.out (fun k_ hk => ⟨⟨hk.1.1.1, hk.2⟩, fun e_ => e_.elim (fun h_ => hk.1.1.2 h_) (fun h_ => hk.1.2 h_)⟩))); (case aS => exact (below_size (by exact HB.out))); (case aL => have := D4.out; omega); intro ad6 v9 ho hb hg hat; rw [← D5.out] at ho; have d6 := Aside0.mk (Kd.R_over' (by exact b7.out) (Kd.S_typed (by exact a4.out)) (by decide) hg); have d7 := Aside0.mk (Kd.S_after (ok := (fun k_ => some k_ ≠ (.slice g9 c3.length h0 : Value).ownBlock ∧ some k_ ≠ (.slice h2 c8.length h3 : Value).ownBlock ∧ k_ ≠ a5)) (by exact Kd.S_mono a3.out (fun _ hk => ⟨⟨hk.1.1.2, ⟨hk.1.2, hk.2⟩⟩, hk.1.1.1⟩)) hg hat); have d8 := Aside0.mk (blk_grown (g := b5) (o := .cells #[.slice none 0 0, .slice none 0 0] 50 (0, 0)) (by exact a7.out) hg (Kd.S_ne a4.out a7.out (by decide))); have d9 := Aside0.mk (blk_grown (g := b6) (o := .cells #[.int .i64 b8, .int .i64 b4] 46 (0, 0)) (by exact a8.out) hg (Kd.S_ne a4.out a8.out (by decide))); have e0 := Aside0.mk (blk_grown (g := b2) (o := .cells #[.slice j0 a2.length j1, .slice i6 a1.length i7] 50 (0, 0)) (by exact a6.out) hg (Kd.S_ne a4.out a6.out (by decide))); have e1 := Aside0.mk (blk_grown (g := a5) (o := .cells #[.slice g9 c3.length h0, .slice h2 c8.length h3] 39 (0, 0)) (by exact b1.out) hg (Kd.S_away a4.out (fun _ hk => hk.2))); have e2 := Aside0.mk (hb); have e6 := Aside0.mk ((show Kd.C k66 v9 u3 d0.length d0 from by rw [h1.out, H9.out]; exact Hy.C_max (lo := (b0 : Int).toNat) (hi := (b3 : Int).toNat) ((Kd.R_reads' (Kd.R_over' (by exact b7.out) (Kd.S_typed (by exact a4.out)) (by decide) hg)).2.2) I1.out I0.out)); have e7 := Aside0.mk (ho); clear b7; clear a3; clear a7; clear a8; clear a6; clear b1; clear HB; clear b9; clear a4; clear d3; clear d4; have b7 := d6; have a3 := d7; have a7 := d8; have a8 := d9; have a6 := e0; have b1 := e1; have HB := e2; have b9 := e6; have z7 := e7; clear d6 d7 d8 d9 e0 e1 e2 e6 e7; clear ho hb hg hat; obtain ⟨p3, p4, D8⟩ := Kd.S_slice z7.out; subst D8; have J4 : v9.cell? ⟨b2, 0, none⟩ = some (.slice j0 a2.length j1) := (blk_cell a6.out 0).trans rfl; have J5 : v9.cell? ⟨b2, 1, none⟩ = some (.slice i6 a1.length i7) := (blk_cell a6.out 1).trans rfl; have J6 := blk_frozen a6.out 0; have J7 := blk_frozen a6.out 1))
                 go_roundg g2
                 case measure => have := m5.out; have := t0.out; omega
                 case rel => exact ⟨(b3), (b8), (b4), (o9), (a1), (.slice p3 o9.length p4), (.slice i6 a1.length i7), (rfl), H', ⟨by have := m5.out; have := t0.out; omega⟩, ⟨by exact Kd.R_mono (Kd.R_far (p := ⟨b2, 0, none⟩) (Kd.R_types b7.out a6.out (by decide)) (fun _ hk => hk.2) (.slice p3 o9.length p4)) (fun _ hk => trivial)⟩, ⟨by exact Kd.S_mono (Kd.S_far (p := ⟨b2, 0, none⟩) (Kd.S_types z7.out a6.out (by decide)) (fun _ hk => hk.2) (.slice p3 o9.length p4)) (fun _ hk => hk.1.1)⟩, ⟨by exact Kd.S_mono (Kd.S_far (p := ⟨b2, 0, none⟩) (Kd.S_types a3.out a6.out (by decide)) (fun _ hk => hk.2) (.slice p3 o9.length p4)) (fun _ hk => hk.1.2)⟩, ⟨by refine blk_far ?_ f7.out _; exact a7.out⟩, ⟨by refine blk_far ?_ f8.out _; exact a8.out⟩, ⟨by refine blk_put (cs := #[.slice j0 a2.length j1, .slice i6 a1.length i7]) ?_ 0 _ rfl; exact a6.out⟩, ⟨by repeat (first | (with_reducible first | exact HB.out | apply below_alloc | apply pw_below_drewN | apply below_drew1 | refine below_set ?_ d1.out | refine below_set ?_ d2.out | refine below_set ?_ d5.out | refine below_set ?_ g3.out) | exact HB.out)⟩⟩
                ·rw [if_neg z4] at H
                 exact absurd H (by simp)
              ·replace x2 := Bool.eq_false_iff.mpr x2
               subst x2
               have H1 : (some (([] : List (S39)), ([] : List (S39)), 30, (rd_T66 a9 b0).f1)) = some (r1, r2, r3, r4) := by rw [if_neg (show ¬ (false = true) by decide)] at H; exact H
               clear H
               have H := H1
               clear H1
               simp only [Option.some.injEq, Prod.mk.injEq] at H
               obtain ⟨rfl, rfl, rfl, rfl⟩ := H
               have g7 : 0 ≤ (b0 : Int) := of_decide_eq_true (by assumption)
               have g8 : b0 < (a9.length : Int) := of_decide_eq_true (by assumption)
               obtain ⟨j4, l5, m2, m3, m4⟩ := at_T66 (Kd.R_reads' b7.out).2.2 b0 g7 g8
               obtain rfl : e3 = j4 := (by injection l5)
               replace g7 := eq_true g7
               replace g8 := eq_true g8
               have U3 := g4.out
               have U4 := f7.out
               have U5 := g5.out
               have U6 := f8.out
               have J8 : wc.cell? ⟨b2, 0, none⟩ = some (f3) := (blk_cell a6.out 0).trans rfl
               have J9 : wc.cell? ⟨b2, 1, none⟩ = some (f4) := (blk_cell a6.out 1).trans rfl
               have K0 := blk_frozen a6.out 0
               have K1 := blk_frozen a6.out 1
               obtain ⟨aa0, aa1, D9⟩ := Kd.S_slice a4.out
               subst D9
               obtain ⟨aa2, aa3, E0⟩ := Kd.S_slice a3.out
               subst E0
               have w2 : (b3 : Int) ≤ ((a9.length : Int) : Int) := of_decide_eq_true (by assumption)
               obtain ⟨i0119, u4, _, u5, _⟩ := info_parts info66
               have r5 : a9.length ≤ k8 := (Kd.R_reads' b7.out).2.1
               have z8 : Kd.C k66 _ (some e3) a9.length a9 := (Kd.R_reads' b7.out).2.2
               have E1 : (b0 : Int) ≤ (b3 : Int) := of_decide_eq_true (by assumption)
               have E2 : (0 : Int) ≤ (b0 : Int) := of_decide_eq_true (by assumption)
               have z9 := Hy.cut_max (P := Try.prog) 55 66 .i64 .i64 .i64 Try.underlying55 u4 3 u5 (some e3) a9.length k8 b0 b3 E2 E1 w2 r5
               have n5 := Hy.C_max (lo := (b0 : Int).toNat) (hi := (b3 : Int).toNat) z8 (by omega) (by omega)
               obtain ⟨w6, n6⟩ : ∃ A1, A1 = (if (b3 : Int).toNat = (b0 : Int).toNat then (some e3) else ((some e3) : Option Addr).map (·.add ((b0 : Int).toNat * 3))) := ⟨_, rfl⟩
               have t5 : d0.length = (b3 : Int).toNat - (b0 : Int).toNat := (by rw [h1.out, List.length_drop, List.length_take] <;> omega)
               rw [show ((a9).take (b3 : Int).toNat).drop (b0 : Int).toNat = d0 from h1.out.symm] at n5
               replace n5 : Kd.C k66 _ w6 d0.length d0 := (by rw [n6]; exact n5)
               rw [← t5, ← n6] at z9
               have HCUT : Aside0 (∀ w1 : World, Kd.C k66 w1 (some e3) a9.length a9 → Kd.C k66 w1 w6 d0.length d0) := ⟨fun w1 hC => (by have hr := Hy.C_max (lo := (b0 : Int).toNat) (hi := (b3 : Int).toNat) hC (by omega) (by omega); rw [show ((a9).take (b3 : Int).toNat).drop (b0 : Int).toNat = d0 from h1.out.symm] at hr; rw [n6]; exact hr)⟩
               have b9 := Aside0.mk n5
               have j3 := Aside0.mk (Nat.le_refl d0.length)
               clear n5 z8 r5 u4 u5
               have aa4 := Aside0.mk t5
               have aa5 := Aside0.mk n6
               clear t5 n6
               have aa6 := Aside0.mk (show (b3 : Int).toNat ≤ a9.length from by omega)
               have aa7 := Aside0.mk (show (b0 : Int).toNat ≤ (b3 : Int).toNat from by omega)
               replace w2 := eq_true w2
               go_wp2_with (first | ((with_reducible refine gate_callee (f := 52) rfl ?_); refine goesL_ (some 71) rfl rfl Try.func52 (by kernel_rfl) rfl #[.slice w6 d0.length d0.length] rfl (by (try simp only [List.map_toArray, List.map_cons, List.map_nil]); first | done | rfl | (simp only [List.length_drop, List.length_take]; rfl)) ?_; (with_reducible refine (pats_one.calls g2 _ _ d0 c3 c8 false _ ?side1 ?side2 x1.out).mono ?_); (case side1 => repeat (first | exact (by repeat (first | (with_reducible exact b9.out) | (with_reducible refine Kd.C_alloc ?_ _) | (with_reducible refine Kd.C_drewN ?_ _) | (with_reducible refine Kd.C_drew ?_) | exact b9.out)) | (with_reducible refine Kd.C_alloc ?_ _) | (with_reducible refine Kd.C_drewN ?_ _) | (with_reducible refine Kd.C_drew ?_))); (case side2 => exact j3.out); rintro e ad7 ⟨v3, v4, rfl, i3, i9, hb⟩; refine ⟨_, rfl, ?_⟩; have d6 := Aside0.mk (Kd.R_below (by exact b7.out) hb); have d7 := Aside0.mk (Kd.S_mono (Kd.S_told (Kd.S_told (Kd.S_old (by exact a4.out) hb) (Kd.R_base i3)) (Kd.R_base i9)) (fun _ h_ => h_.1)); have d8 := Aside0.mk (Kd.S_mono (Kd.S_told (Kd.S_told (Kd.S_old (by exact a3.out) hb) (Kd.R_base i3)) (Kd.R_base i9)) (fun _ h_ => h_.1)); have d9 := Aside0.mk (Kd.R_lower i3 (below_size (HB.out))); have e0 := Aside0.mk (Kd.R_lower i9 (below_size (HB.out))); have e1 := Aside0.mk (blk_below a7.out hb); have e2 := Aside0.mk (blk_below a8.out hb); have e6 := Aside0.mk (blk_below a6.out hb); have e7 := Aside0.mk (Kd.C_below (by repeat (first | (with_reducible exact b9.out) | (with_reducible refine Kd.C_alloc ?_ _) | (with_reducible refine Kd.C_drewN ?_ _) | (with_reducible refine Kd.C_drew ?_) | exact b9.out)) hb); have f2 := Aside0.mk (below_step (HB.out) hb); clear b7; clear a4; clear a3; clear a7; clear a8; clear a6; clear b9; clear HB; have b7 := d6; have a4 := d7; have a3 := d8; have d3 := d9; have d4 := e0; have a7 := e1; have a8 := e2; have a6 := e6; have b9 := e7; have HB := f2; clear d6 d7 d8 d9 e0 e1 e2 e6 e7 f2; (try clear hb); (try clear n1); (try clear hk); (try clear hi); (try clear i3); (try clear i9)) | ((with_reducible refine gate_dst (N := 10) rfl ?_); refine box_event ?hg (N := 10) ?hd (cs := #[.slice none 0 0, .slice none 0 0]) (t := 39) ?hr ?_; (case hd => rfl); (case hg => rfl); (case hr => first | (go_simp; done) | (go_simp; rfl)); intro a5 hg p0 hbox hb; have d6 := Aside0.mk (Kd.R_below (by exact b7.out) hb); have d7 := Aside0.mk (Kd.S_below (Kd.S_elderB (by exact a4.out) a5 (Nat.le_of_eq hg.symm)) hb); have d8 := Aside0.mk (Kd.S_below (Kd.S_elderB (by exact a3.out) a5 (Nat.le_of_eq hg.symm)) hb); have d9 := Aside0.mk (Kd.R_below (by exact d3.out) hb); have e0 := Aside0.mk (Kd.R_below (by exact d4.out) hb); have e1 := Aside0.mk (blk_below a7.out hb); have e2 := Aside0.mk (blk_below a8.out hb); have e6 := Aside0.mk (blk_below a6.out hb); have e7 := Aside0.mk (Kd.C_below (by repeat (first | (with_reducible exact b9.out) | (with_reducible refine Kd.C_alloc ?_ _) | (with_reducible refine Kd.C_drewN ?_ _) | (with_reducible refine Kd.C_drew ?_) | exact b9.out)) hb); have f2 := Aside0.mk (below_step (HB.out) hb); have f6 := Aside0.mk (hbox); have j5 := Aside0.mk ((by rw [hg]; exact (below_size (HB.out)) : w.heap.size ≤ a5)); have j6 := Aside0.mk ((by rw [hg]; exact (below_size (HB.out)) : w.heap.size ≤ a5)); have j7 := Aside0.mk ((by rw [hg]; exact Nat.ne_of_lt (blk_lt a7.out) : b5 ≠ a5)); have j8 := Aside0.mk ((by rw [hg]; exact Nat.ne_of_gt (blk_lt a7.out) : a5 ≠ b5)); have j9 := Aside0.mk ((by rw [hg]; exact Nat.ne_of_lt (blk_lt a8.out) : b6 ≠ a5)); have k0 := Aside0.mk ((by rw [hg]; exact Nat.ne_of_gt (blk_lt a8.out) : a5 ≠ b6)); have k3 := Aside0.mk ((by rw [hg]; exact Nat.ne_of_lt (blk_lt a6.out) : b2 ≠ a5)); have k4 := Aside0.mk ((by rw [hg]; exact Nat.ne_of_gt (blk_lt a6.out) : a5 ≠ b2)); clear b7; clear a4; clear a3; clear d3; clear d4; clear a7; clear a8; clear a6; clear b9; clear HB; have b7 := d6; have a4 := d7; have a3 := d8; have d3 := d9; have d4 := e0; have a7 := e1; have a8 := e2; have a6 := e6; have b9 := e7; have HB := f2; have b1 := f6; have t1 := j5; have g3 := j6; have e8 := j7; have h4 := j8; have e9 := j9; have h5 := k0; have f5 := k3; have h6 := k4; clear d6 d7 d8 d9 e0 e1 e2 e6 e7 f2 f6 j5 j6 j7 j8 j9 k0 k3 k4; clear hb hbox hg; obtain ⟨aa8, aa9, E3⟩ := Kd.R_slice d3.out; subst E3; have U7 := h4.out; have U8 := e8.out; have U9 := h5.out; have V0 := e9.out; have V1 := h6.out; have V2 := f5.out; have K2 : p0.cell? ⟨a5, 0, none⟩ = some (.slice none 0 0) := (blk_cell b1.out 0).trans rfl; have K3 : p0.cell? ⟨a5, 1, none⟩ = some (.slice none 0 0) := (blk_cell b1.out 1).trans rfl; have K4 := blk_frozen b1.out 0; have K5 := blk_frozen b1.out 1; obtain ⟨ab0, ab1, E4⟩ := Kd.R_slice d4.out; subst E4; have V3 := e4.out; have V4 := e5.out; have K6 : p0.cell? ⟨b5, 0, none⟩ = some (.slice none 0 0) := (blk_cell a7.out 0).trans rfl; have K7 : p0.cell? ⟨b5, 1, none⟩ = some (.slice none 0 0) := (blk_cell a7.out 1).trans rfl; have K8 := blk_frozen a7.out 0; have K9 := blk_frozen a7.out 1; have L0 : p0.cell? ⟨b6, 0, none⟩ = some (.int .i64 b8) := (blk_cell a8.out 0).trans rfl; have L1 : p0.cell? ⟨b6, 1, none⟩ = some (.int .i64 b4) := (blk_cell a8.out 1).trans rfl; have L2 := blk_frozen a8.out 0; have L3 := blk_frozen a8.out 1))
               refine bodyPost_ret (results_cc rfl _ _ b5 b6 50 46 #[.slice none 0 0, .slice none 0 0] #[.int .i64 30, .int .i64 ((rd_T66 a9 b0).f1)] (0, 0) (0, 0) _ _ rfl (by refine blk_far ?_ e4.out _; refine blk_far ?_ e4.out _; refine blk_put (cs := #[.slice none 0 0, .slice none 0 0]) ?_ 1 _ rfl; refine blk_put (cs := #[.slice none 0 0, .slice none 0 0]) ?_ 0 _ rfl; refine blk_far ?_ e8.out _; refine blk_far ?_ e8.out _; exact a7.out) Try.underlying50 rfl (by kernel_rfl) rfl (by refine blk_put (cs := #[.int .i64 30, .int .i64 b4]) ?_ 1 _ rfl; refine blk_put (cs := #[.int .i64 b8, .int .i64 b4]) ?_ 0 _ rfl; refine blk_far ?_ e5.out _; refine blk_far ?_ e5.out _; refine blk_far ?_ e9.out _; refine blk_far ?_ e9.out _; exact a8.out) Try.underlying46 rfl (by kernel_rfl)) rfl ?_
               exact ⟨_, _, rfl, by first | exact Kd.S_nil _ _ _ _ _ | exact Kd.N_nil _ _ _ _ _ | exact Kd.V_nil _ _ _ _ _ | exact Kd.Q_nil _ _ _ _ _ | exact Kd.R_nil _ _ _ _ _, by first | exact Kd.S_nil _ _ _ _ _ | exact Kd.N_nil _ _ _ _ _ | exact Kd.V_nil _ _ _ _ _ | exact Kd.Q_nil _ _ _ _ _ | exact Kd.R_nil _ _ _ _ _, by repeat (first | (with_reducible first | exact HB.out | apply below_alloc | apply pw_below_drewN | apply below_drew1 | refine below_set ?_ d1.out | refine below_set ?_ d2.out | refine below_set ?_ d5.out | refine below_set ?_ g3.out) | exact HB.out)⟩
             ·rw [if_neg u1] at H
              exact absurd H (by simp)
            ·rw [if_neg u0] at H
             exact absurd H (by simp)
          ·rw [if_neg x0] at H
           exact absurd H (by simp)
         ·rw [if_neg w9] at H
          exact absurd H (by simp)
     ·rw [if_neg r6] at H
      exact absurd H (by simp)
    ·rw [if_neg p1] at H
     have s8 : decide (b0 < (a9.length : Int)) = false := decide_eq_false p1
     clear p1
     simp only [Option.some.injEq, Prod.mk.injEq] at H
     obtain ⟨rfl, rfl, rfl, rfl⟩ := H
     obtain ⟨ab2, ab3, E5⟩ := Kd.R_slice b7.out
     subst E5
     have V5 := g4.out
     have V6 := f7.out
     have V7 := g5.out
     have V8 := f8.out
     have L4 : wr.cell? ⟨b2, 0, none⟩ = some (f3) := (blk_cell a6.out 0).trans rfl
     have L5 : wr.cell? ⟨b2, 1, none⟩ = some (f4) := (blk_cell a6.out 1).trans rfl
     have L6 := blk_frozen a6.out 0
     have L7 := blk_frozen a6.out 1
     obtain ⟨p5, p7, E6⟩ := Kd.S_slice a4.out
     subst E6
     have V9 := e4.out
     have W0 := e5.out
     have L8 : wr.cell? ⟨b5, 0, none⟩ = some (.slice none 0 0) := (blk_cell a7.out 0).trans rfl
     have L9 : wr.cell? ⟨b5, 1, none⟩ = some (.slice none 0 0) := (blk_cell a7.out 1).trans rfl
     have M0 := blk_frozen a7.out 0
     have M1 := blk_frozen a7.out 1
     obtain ⟨t6, t7, E7⟩ := Kd.S_slice a3.out
     subst E7
     have M2 : wr.cell? ⟨b6, 0, none⟩ = some (.int .i64 b8) := (blk_cell a8.out 0).trans rfl
     have M3 : wr.cell? ⟨b6, 1, none⟩ = some (.int .i64 b4) := (blk_cell a8.out 1).trans rfl
     have M4 := blk_frozen a8.out 0
     have M5 := blk_frozen a8.out 1
     go_wp2
     refine bodyPost_ret (results_cc rfl _ _ b5 b6 50 46 #[.slice p5 a2.length p7, .slice t6 a1.length t7] #[.int .i64 0, .int .i64 0] (0, 0) (0, 0) _ _ rfl (by refine blk_far ?_ e4.out _; refine blk_far ?_ e4.out _; refine blk_put (cs := #[.slice p5 a2.length p7, .slice none 0 0]) ?_ 1 _ rfl; refine blk_put (cs := #[.slice none 0 0, .slice none 0 0]) ?_ 0 _ rfl; exact a7.out) Try.underlying50 rfl (by kernel_rfl) rfl (by refine blk_put (cs := #[.int .i64 0, .int .i64 b4]) ?_ 1 _ rfl; refine blk_put (cs := #[.int .i64 b8, .int .i64 b4]) ?_ 0 _ rfl; refine blk_far ?_ e5.out _; refine blk_far ?_ e5.out _; exact a8.out) Try.underlying46 rfl (by kernel_rfl)) rfl ?_
     exact ⟨_, _, rfl, by exact Kd.S_mono (Kd.S_far (p := ⟨b6, 1, none⟩) (Kd.S_far (p := ⟨b6, 0, none⟩) (Kd.S_far (p := ⟨b5, 1, none⟩) (Kd.S_far (p := ⟨b5, 0, none⟩) (Kd.S_types (Kd.S_types a4.out a7.out (by decide)) a8.out (by decide)) (fun _ hk => hk.1.2) (.slice p5 a2.length p7)) (fun _ hk => hk.1.2) (.slice t6 a1.length t7)) (fun _ hk => hk.2) (.int .i64 0)) (fun _ hk => hk.2) (.int .i64 0)) (fun _ hk => hk.1.1), by exact Kd.S_mono (Kd.S_far (p := ⟨b6, 1, none⟩) (Kd.S_far (p := ⟨b6, 0, none⟩) (Kd.S_far (p := ⟨b5, 1, none⟩) (Kd.S_far (p := ⟨b5, 0, none⟩) (Kd.S_types (Kd.S_types a3.out a7.out (by decide)) a8.out (by decide)) (fun _ hk => hk.1.2) (.slice p5 a2.length p7)) (fun _ hk => hk.1.2) (.slice t6 a1.length t7)) (fun _ hk => hk.2) (.int .i64 0)) (fun _ hk => hk.2) (.int .i64 0)) (fun _ hk => hk.1.1), by repeat (first | (with_reducible first | exact HB.out | apply below_alloc | apply pw_below_drewN | apply below_drew1 | refine below_set ?_ d1.out | refine below_set ?_ d2.out | refine below_set ?_ d5.out) | exact HB.out)⟩
end Go.Proofs.Ytoefjhdcipgacaa.PA
end
