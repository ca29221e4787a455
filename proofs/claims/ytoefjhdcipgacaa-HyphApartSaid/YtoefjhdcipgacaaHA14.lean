/-
  Part 14 of what the law HyphApart rests on: contracts of the functions that it calls, and plain laws of what they compute.
-/
import Derived.Test.YtoefjhdcipgacaaHA6
import Derived.Test.YtoefjhdcipgacaaHA13
section
namespace Go.Proofs.Ytoefjhdcipgacaa.PA
open Go.RowKit Go.Proofs.YtoefjhdcipgacaaW.PrintWords Go.Proofs.YtoefjhdcipgacaaW.PrintLast Go.Proofs.YtoefjhdcipgacaaW.PrintMore
attribute [local go_sem] max2_int min2_int max_two min_two max_three min_three max_four min_four   -- for this text's walks alone
set_option linter.unusedVariables false
set_option linter.unusedSimpArgs false
set_option maxHeartbeats 8000000 in
set_option maxRecDepth 100000 in
theorem pats_one.calls (k : Nat) (A0 : Option Addr) (c0 : Nat) (l0 : List (S66)) (r1 : List Int) (r2 : List Int) (r3 : Bool) (w : World) (hr0 : Kd.C k66 w A0 l0.length l0) (hc0 : l0.length ≤ c0) (h : pats_one.f k l0 = some (r1, r2, r3)) :
  Calls Try.prog 52 #[.slice A0 l0.length c0] w fun e w' => ∃ v0_ v1_ : Value, e = .returned (.tuple #[.agg #[v0_, v1_], .bool r3]) ∧ Kd.R (Kd.int .i32) 21 w' w.heap.size (fun _ => True) v0_ r1 ∧ Kd.R (Kd.int .u8) 5 w' w.heap.size (fun _ => True) v1_ r2 ∧ Below w.heap.size w w' := by
 have hu39 := Try.underlying39
 have hu66 := Try.underlying66
 have HR0 := Aside0.mk hr0
 have HC0 := Aside0.mk hc0
 clear hr0 hc0
 have HB := Aside0.mk (Below.refl w.heap.size w)
 have H : ((pats_hyphened.f l0).bind fun t226 => (pats_one.l0 k l0 t226 false 0 l0 (l0.length : Int) 0 ([] : List Int) (([0] : List Int)))) = some (r1, r2, r3) := h
 clear h
 replace H := Option.bind_eq_some_iff.mp H
 obtain ⟨t226, A20, H⟩ := H
 replace H : (pats_one.l0 k l0 t226 false 0 l0 (l0.length : Int) 0 ([] : List Int) (([0] : List Int))) = some (r1, r2, r3) := H
 have A2 := Aside0.mk A20
 clear A20
 obtain ⟨y227, hy227⟩ : ∃ y_ : List Int, y_ = (([0] : List Int)) := ⟨_, rfl⟩
 replace H : (pats_one.l0 k l0 t226 false 0 l0 (l0.length : Int) 0 ([] : List Int) y227) = some (r1, r2, r3) := by first | (rw [hy227]; with_reducible exact H) | (have H2_ := (Option.bind_some _ _).symm.trans H; rw [hy227]; with_reducible exact H2_) | (have H2_ := (Option.bind_some _ _).symm.trans H; with_reducible exact H2_) | with_reducible exact H | (rw [hy227]; exact H) | exact H
 have Ny227 := Aside0.mk hy227
 clear hy227
 have H' := Aside0.mk H
 clear H
 go_enter Try.func52, Try.ntmps52
 go_wp2_with (first | ((with_reducible refine gate_dst (N := 2) rfl ?_); (try (refine gate_guard (by rfl) ?_; dsimp only)); refine box_event ?hg (N := 2) ?hd (cs := #[.slice none 0 0, .slice none 0 0]) (t := 39) ?hr ?_; (case hd => rfl); (case hg => rfl); (case hr => first | (go_simp; done) | (go_simp; rfl)); intro gb225 hg w3 hbox hb; have n0_ := Aside0.mk (below_step (by repeat (first | (with_reducible first | exact HB.out | apply below_alloc | apply pw_below_drewN | apply below_drew1) | exact HB.out)) hb); have n1_ := Aside0.mk (hbox); have n2_ := Aside0.mk ((by rw [hg]; exact (below_size (by repeat (first | (with_reducible first | exact HB.out | apply below_alloc | apply pw_below_drewN | apply below_drew1) | exact HB.out))) : w.heap.size ≤ gb225)); have n3_ := Aside0.mk ((by rw [hg]; exact (below_size (by repeat (first | (with_reducible first | exact HB.out | apply below_alloc | apply pw_below_drewN | apply below_drew1) | exact HB.out))) : w.heap.size ≤ gb225)); clear HB; have HB := n0_; have BK225 := n1_; have GW225 := n2_; have GE225 := n3_; clear n0_ n1_ n2_ n3_; clear hb hbox hg) | ((with_reducible refine gate_callee (f := 53) rfl ?_); refine goesL_ (some 14) rfl rfl Try.func53 (by kernel_rfl) rfl #[.slice A0 l0.length c0] rfl (by (try simp only [List.map_toArray, List.map_cons, List.map_nil]); first | done | rfl | (simp only [List.length_drop, List.length_take]; rfl)) ?_; (with_reducible refine (pats_hyphened.calls _ _ l0 t226 _ ?side1 ?side2 A2.out).mono ?_); (case side1 => repeat (first | exact (Kd.C_below HR0.out HB.out) | (with_reducible refine Kd.C_alloc ?_ _) | (with_reducible refine Kd.C_drewN ?_ _) | (with_reducible refine Kd.C_drew ?_))); (case side2 => exact HC0.out); rintro e w4 ⟨rfl, hb⟩; refine ⟨_, rfl, ?_⟩; have n0_ := Aside0.mk (blk_below (g := gb225) (o := .cells #[.slice none 0 0, .slice none 0 0] 39 (0, 0)) (by (with_reducible repeat (first | refine blk_drewN ?_ _ | refine blk_drew ?_ | refine blk_alloc ?_ _)); exact BK225.out) hb); have n1_ := Aside0.mk (below_step (by repeat (first | (with_reducible first | exact HB.out | apply below_alloc | apply pw_below_drewN | apply below_drew1 | refine below_set ?_ GE225.out) | exact HB.out)) hb); clear BK225; clear HB; have BK225 := n0_; have HB := n1_; clear n0_ n1_; (try clear hb); (try clear hb2); (try clear hk); (try clear hi)) | ((with_reducible refine gate_dst (N := 15) rfl ?_); (try (refine gate_guard (by rfl) ?_; dsimp only)); refine Kd.R_lit (Kd.int .u8) _ 5 ?hg (N := 15) ?hd (xs := ([0] : List Int)) (inner := [.int .u8 0]) (ok := fun _ => True) (okp := fun _ => True) ?hr ?hp (fun _ hk => hk) trivial (Below.refl _ _) (Nat.le_refl _) (by simp) ?_; (case hd => rfl); (case hg => rfl); (case hr => first | (go_simp; done) | (go_simp; rfl)); (case hp => exact (Reps.one (show Kd.M (Kd.int .u8) _ _ _ 0 [.int .u8 0] from rfl) (Reps.none _ _))); intro v228 w5 ho6 hb hg_ hnew_; clear hg_ hnew_; (first | rw [← Ny227.out] at ho6 | (simp only [Int.reduceToNat] at ho6; rw [← Ny227.out] at ho6)); have n0_ := Aside0.mk (Kd.R_lower ho6 (below_size (by repeat (first | (with_reducible first | exact HB.out | apply below_alloc | apply pw_below_drewN | apply below_drew1 | refine below_set ?_ GE225.out) | exact HB.out)))); have n1_ := Aside0.mk (blk_below (g := gb225) (o := .cells #[.slice none 0 0, .slice none 0 0] 39 (0, 0)) (by (with_reducible repeat (first | refine blk_drewN ?_ _ | refine blk_drew ?_ | refine blk_alloc ?_ _)); exact BK225.out) hb); have n2_ := Aside0.mk (below_step (by repeat (first | (with_reducible first | exact HB.out | apply below_alloc | apply pw_below_drewN | apply below_drew1 | refine below_set ?_ GE225.out) | exact HB.out)) hb); clear BK225; clear HB; have HO229 := n0_; have BK225 := n1_; have HB := n2_; clear n0_ n1_ n2_; clear hb ho6; obtain ⟨Ao7, co7, eo7⟩ := Kd.R_slice HO229.out; subst eo7) | ((with_reducible refine gate_dst (N := 5) rfl ?_); (try (refine gate_guard (by rfl) ?_; dsimp only)); refine box_event ?hg (N := 5) ?hd (cs := #[.slice none 0 0, .slice none 0 0]) (t := 39) ?hr ?_; (case hd => rfl); (case hg => rfl); (case hr => first | (go_simp; done) | (go_simp; rfl)); intro gb230 hg w8 hbox hb; have n0_ := Aside0.mk (Kd.R_below (by (with_reducible repeat (first | apply Kd.R_alloc | apply Kd.R_drewN | apply Kd.R_drew)); exact HO229.out) hb); have n1_ := Aside0.mk (blk_below (g := gb225) (o := .cells #[.slice none 0 0, .slice none 0 0] 39 (0, 0)) (by (with_reducible repeat (first | refine blk_drewN ?_ _ | refine blk_drew ?_ | refine blk_alloc ?_ _)); exact BK225.out) hb); have n2_ := Aside0.mk (below_step (by repeat (first | (with_reducible first | exact HB.out | apply below_alloc | apply pw_below_drewN | apply below_drew1 | refine below_set ?_ GE225.out) | exact HB.out)) hb); have n3_ := Aside0.mk (hbox); have n4_ := Aside0.mk ((by rw [hg]; exact (below_size (by repeat (first | (with_reducible first | exact HB.out | apply below_alloc | apply pw_below_drewN | apply below_drew1 | refine below_set ?_ GE225.out) | exact HB.out))) : w.heap.size ≤ gb230)); have n5_ := Aside0.mk ((by rw [hg]; exact (below_size (by repeat (first | (with_reducible first | exact HB.out | apply below_alloc | apply pw_below_drewN | apply below_drew1 | refine below_set ?_ GE225.out) | exact HB.out))) : w.heap.size ≤ gb230)); have n6_ := Aside0.mk ((by rw [hg]; exact Nat.ne_of_lt (blk_lt (g := gb225) (o := .cells #[.slice none 0 0, .slice none 0 0] 39 (0, 0)) (by (with_reducible repeat (first | refine blk_drewN ?_ _ | refine blk_drew ?_ | refine blk_alloc ?_ _)); exact BK225.out)) : gb225 ≠ gb230)); have n7_ := Aside0.mk ((by rw [hg]; exact Nat.ne_of_gt (blk_lt (g := gb225) (o := .cells #[.slice none 0 0, .slice none 0 0] 39 (0, 0)) (by (with_reducible repeat (first | refine blk_drewN ?_ _ | refine blk_drew ?_ | refine blk_alloc ?_ _)); exact BK225.out)) : gb230 ≠ gb225)); clear HO229; clear BK225; clear HB; have HO229 := n0_; have BK225 := n1_; have HB := n2_; have BK230 := n3_; have GW230 := n4_; have GE230 := n5_; have NB225_230 := n6_; have NB230_225 := n7_; clear n0_ n1_ n2_ n3_ n4_ n5_ n6_ n7_; clear hb hbox hg; have hnb9 := NB230_225.out; have hnc9 := NB225_230.out; have hcz10_0 : w8.cell? ⟨gb230, 0, none⟩ = some (.slice none 0 0) := (blk_cell BK230.out 0).trans rfl; have hcz10_1 : w8.cell? ⟨gb230, 1, none⟩ = some (.slice none 0 0) := (blk_cell BK230.out 1).trans rfl; have hfz10_0 := blk_frozen BK230.out 0; have hfz10_1 := blk_frozen BK230.out 1))
 go_loopg [6, 7, 19] k (fun kq v6 v7 v19 w' => ∃ (x6_1 : Bool) (x7_1 : Int) (x19_1 : Int) (xa0_1 : List Int) (xa1_1 : List Int) (ua0 : Value) (ua1 : Value), v6 = .bool x6_1 ∧ v7 = .int .i64 x7_1 ∧ v19 = .int .i64 x19_1 ∧ Aside0 (pats_one.l0 kq l0 t226 x6_1 x7_1 l0 (l0.length : Int) x19_1 xa0_1 xa1_1 = some (r1, r2, r3)) ∧ Aside0 (kq ≤ k) ∧ Aside0 (Kd.R (Kd.int .i32) 21 w' w.heap.size (fun _ => True) ua0 xa0_1) ∧ Aside0 (Kd.R (Kd.int .u8) 5 w' w.heap.size (fun _ => True) ua1 xa1_1) ∧ Aside0 (w'.heap[gb225]? = some (.cells #[(.slice none 0 0), (.slice none 0 0)] 39 (0, 0))) ∧ Aside0 (w'.heap[gb230]? = some (.cells #[ua0, ua1] 39 (0, 0))) ∧ Aside0 (Below w.heap.size w w'))
 case atStart => exact ⟨(false), (0), (0), (([] : List Int)), (y227), (.slice none 0 0), (.slice Ao7 y227.length co7), (by first | rfl | (simp; done) | (simp [*]; done)), (by first | rfl | (simp; done) | (simp [*]; done)), (by first | rfl | (simp; done) | (simp [*]; done)), H', ⟨Nat.le_refl _⟩, ⟨by first | exact Kd.R_nil _ _ _ _ _ | exact Kd.N_nil _ _ _ _ _ | exact Kd.V_nil _ _ _ _ _ | exact Kd.Q_nil _ _ _ _ _ | exact Kd.S_nil _ _ _ _ _⟩, ⟨by (with_reducible repeat (first | apply Kd.R_alloc | apply Kd.R_drewN | apply Kd.R_drew)); exact Kd.R_mono (Kd.R_far (p := ⟨gb230, 1, none⟩) (Kd.R_far (p := ⟨gb230, 0, none⟩) (Kd.R_types HO229.out BK230.out (by decide)) (fun _ hk => hk.2) (.slice none 0 0)) (fun _ hk => hk.2) (.slice Ao7 y227.length co7)) (fun _ hk => trivial)⟩, ⟨by (with_reducible repeat (first | refine blk_drewN ?_ _ | refine blk_drew ?_ | refine blk_alloc ?_ _)); refine blk_far ?_ NB225_230.out _; (with_reducible repeat (first | refine blk_drewN ?_ _ | refine blk_drew ?_ | refine blk_alloc ?_ _)); refine blk_far ?_ NB225_230.out _; (with_reducible repeat (first | refine blk_drewN ?_ _ | refine blk_drew ?_ | refine blk_alloc ?_ _)); exact BK225.out⟩, ⟨by (with_reducible repeat (first | refine blk_drewN ?_ _ | refine blk_drew ?_ | refine blk_alloc ?_ _)); refine blk_put (cs := #[.slice none 0 0, .slice none 0 0]) ?_ 1 _ rfl; (with_reducible repeat (first | refine blk_drewN ?_ _ | refine blk_drew ?_ | refine blk_alloc ?_ _)); refine blk_put (cs := #[.slice none 0 0, .slice none 0 0]) ?_ 0 _ rfl; (with_reducible repeat (first | refine blk_drewN ?_ _ | refine blk_drew ?_ | refine blk_alloc ?_ _)); exact BK230.out⟩, ⟨by repeat (first | (with_reducible first | exact HB.out | apply below_alloc | apply pw_below_drewN | apply below_drew1 | refine below_set ?_ GE225.out | refine below_set ?_ GE230.out) | exact HB.out)⟩⟩
 case round =>
  clear H'
  try clear p2
  try clear c5
  try clear c9
  try clear hcz10_0
  try clear hcz10_1
  try clear hfz10_0
  try clear hfz10_1
  obtain ⟨x6_1, x7_1, x19_1, xa0_1, xa1_1, ua0, ua1, rfl, rfl, rfl, HA, HK1, HO_a0, HO_a1, BK225, BK230, HB⟩ := hrel
  cases gk with
  | zero => exact absurd HA.out (by simp [pats_one.l0])
  | succ k1 =>
   have H := HA.out
   clear HA
   simp only [pats_one.l0] at H
   by_cases c11 : x19_1 < (l0.length : Int)
   ·rw [if_pos c11] at H
    have c11b0 : decide (x19_1 < (l0.length : Int)) = true := decide_eq_true c11
    clear c11
    by_cases c12 : 0 ≤ x19_1
    ·rw [if_pos c12] at H
     have c12b0 : decide (0 ≤ x19_1) = true := decide_eq_true c12
     clear c12
     by_cases c13 : x19_1 < (l0.length : Int)
     ·rw [if_pos c13] at H
      have c13b0 : decide (x19_1 < (l0.length : Int)) = true := decide_eq_true c13
      clear c13
      by_cases c14 : ((rd_T66 l0 x19_1).f0) = 65533
      ·rw [if_pos c14] at H
       have c14b0 : (((rd_T66 l0 x19_1).f0) == 65533) = true := beq_iff_eq.mpr c14
       have c14b1 : (((rd_T66 l0 x19_1).f0) != 65533) = false := bne_eq_false_iff_eq.mpr c14
       clear c14
       simp only [Option.some.injEq, Prod.mk.injEq] at H
       obtain ⟨rfl, rfl, rfl⟩ := H
       have p231 : 0 ≤ (x19_1 : Int) := of_decide_eq_true (by first | (with_reducible assumption) | assumption)
       have q231 : x19_1 < (l0.length : Int) := of_decide_eq_true (by first | (with_reducible assumption) | assumption)
       obtain ⟨ad231, e231, hx231_0, hx231_1, hx231_2⟩ := at_T66 HR0.out x19_1 p231 q231
       cases e231
       replace hx231_0 := (HB.out.cell (World.block_lt_of_cell? w _ hx231_0)).trans hx231_0
       replace hx231_1 := (HB.out.cell (World.block_lt_of_cell? w _ hx231_1)).trans hx231_1
       replace hx231_2 := (HB.out.cell (World.block_lt_of_cell? w _ hx231_2)).trans hx231_2
       replace p231 := eq_true p231
       replace q231 := eq_true q231
       go_wp2_with (first | ((with_reducible refine gate_dst (N := 9) rfl ?_); (try (refine gate_guard (by rfl) ?_; dsimp only)); refine box_event ?hg (N := 9) ?hd (cs := #[.int .i32 0, .int .i64 0, .int .i64 0]) (t := 66) ?hr ?_; (case hd => rfl); (case hg => rfl); (case hr => first | (go_simp; done) | (go_simp; rfl)); intro gb232 hg w15 hbox hb; have n0_ := Aside0.mk (Kd.R_below (by (with_reducible repeat (first | apply Kd.R_alloc | apply Kd.R_drewN | apply Kd.R_drew)); exact HO_a0.out) hb); have n1_ := Aside0.mk (Kd.R_below (by (with_reducible repeat (first | apply Kd.R_alloc | apply Kd.R_drewN | apply Kd.R_drew)); exact HO_a1.out) hb); have n2_ := Aside0.mk (blk_below (g := gb225) (o := .cells #[.slice none 0 0, .slice none 0 0] 39 (0, 0)) (by (with_reducible repeat (first | refine blk_drewN ?_ _ | refine blk_drew ?_ | refine blk_alloc ?_ _)); exact BK225.out) hb); have n3_ := Aside0.mk (blk_below (g := gb230) (o := .cells #[ua0, ua1] 39 (0, 0)) (by (with_reducible repeat (first | refine blk_drewN ?_ _ | refine blk_drew ?_ | refine blk_alloc ?_ _)); exact BK230.out) hb); have n4_ := Aside0.mk (below_step (by repeat (first | (with_reducible first | exact HB.out | apply below_alloc | apply pw_below_drewN | apply below_drew1 | refine below_set ?_ GE225.out | refine below_set ?_ GE230.out) | exact HB.out)) hb); have n5_ := Aside0.mk (hbox); have n6_ := Aside0.mk ((by rw [hg]; exact (below_size (by repeat (first | (with_reducible first | exact HB.out | apply below_alloc | apply pw_below_drewN | apply below_drew1 | refine below_set ?_ GE225.out | refine below_set ?_ GE230.out) | exact HB.out))) : w.heap.size ≤ gb232)); have n7_ := Aside0.mk ((by rw [hg]; exact (below_size (by repeat (first | (with_reducible first | exact HB.out | apply below_alloc | apply pw_below_drewN | apply below_drew1 | refine below_set ?_ GE225.out | refine below_set ?_ GE230.out) | exact HB.out))) : w.heap.size ≤ gb232)); have n8_ := Aside0.mk ((by rw [hg]; exact Nat.ne_of_lt (blk_lt (g := gb225) (o := .cells #[.slice none 0 0, .slice none 0 0] 39 (0, 0)) (by (with_reducible repeat (first | refine blk_drewN ?_ _ | refine blk_drew ?_ | refine blk_alloc ?_ _)); exact BK225.out)) : gb225 ≠ gb232)); have n9_ := Aside0.mk ((by rw [hg]; exact Nat.ne_of_gt (blk_lt (g := gb225) (o := .cells #[.slice none 0 0, .slice none 0 0] 39 (0, 0)) (by (with_reducible repeat (first | refine blk_drewN ?_ _ | refine blk_drew ?_ | refine blk_alloc ?_ _)); exact BK225.out)) : gb232 ≠ gb225)); have n10_ := Aside0.mk ((by rw [hg]; exact Nat.ne_of_lt (blk_lt (g := gb230) (o := .cells #[ua0, ua1] 39 (0, 0)) (by (with_reducible repeat (first | refine blk_drewN ?_ _ | refine blk_drew ?_ | refine blk_alloc ?_ _)); exact BK230.out)) : gb230 ≠ gb232)); have n11_ := Aside0.mk ((by rw [hg]; exact Nat.ne_of_gt (blk_lt (g := gb230) (o := .cells #[ua0, ua1] 39 (0, 0)) (by (with_reducible repeat (first | refine blk_drewN ?_ _ | refine blk_drew ?_ | refine blk_alloc ?_ _)); exact BK230.out)) : gb232 ≠ gb230)); clear HO_a0; clear HO_a1; clear BK225; clear BK230; clear HB; have HO_a0 := n0_; have HO_a1 := n1_; have BK225 := n2_; have BK230 := n3_; have HB := n4_; have BK232 := n5_; have GW232 := n6_; have GE232 := n7_; have NB225_232 := n8_; have NB232_225 := n9_; have NB230_232 := n10_; have NB232_230 := n11_; clear n0_ n1_ n2_ n3_ n4_ n5_ n6_ n7_ n8_ n9_ n10_ n11_; clear hb hbox hg; have hnb16 := NB232_225.out; have hnc16 := NB225_232.out; have hnb17 := NB232_230.out; have hnc17 := NB230_232.out; have hcz18_0 : w15.cell? ⟨gb232, 0, none⟩ = some (.int .i32 0) := (blk_cell BK232.out 0).trans rfl; have hcz18_1 : w15.cell? ⟨gb232, 1, none⟩ = some (.int .i64 0) := (blk_cell BK232.out 1).trans rfl; have hcz18_2 : w15.cell? ⟨gb232, 2, none⟩ = some (.int .i64 0) := (blk_cell BK232.out 2).trans rfl; have hfz18_0 := blk_frozen BK232.out 0; have hfz18_1 := blk_frozen BK232.out 1; have hfz18_2 := blk_frozen BK232.out 2; have hnb19 := NB230_225.out; have hnc19 := NB225_230.out; have hcz20_0 : w15.cell? ⟨gb230, 0, none⟩ = some (ua0) := (blk_cell BK230.out 0).trans rfl; have hcz20_1 : w15.cell? ⟨gb230, 1, none⟩ = some (ua1) := (blk_cell BK230.out 1).trans rfl; have hfz20_0 := blk_frozen BK230.out 0; have hfz20_1 := blk_frozen BK230.out 1; obtain ⟨Ao21, co21, eo21⟩ := Kd.R_slice HO_a0.out; subst eo21; have hcz22_0 : w15.cell? ⟨gb225, 0, none⟩ = some (.slice none 0 0) := (blk_cell BK225.out 0).trans rfl; have hcz22_1 : w15.cell? ⟨gb225, 1, none⟩ = some (.slice none 0 0) := (blk_cell BK225.out 1).trans rfl; have hfz22_0 := blk_frozen BK225.out 0; have hfz22_1 := blk_frozen BK225.out 1; obtain ⟨Ao23, co23, eo23⟩ := Kd.R_slice HO_a1.out; subst eo23))
       refine bodyPost_ret (results_ct rfl _ _ gb225 39 #[.slice Ao21 xa0_1.length co21, .slice Ao23 xa1_1.length co23] (0, 0) _ rfl (by (with_reducible repeat (first | refine blk_drewN ?_ _ | refine blk_drew ?_ | refine blk_alloc ?_ _)); refine blk_put (cs := #[.slice Ao21 xa0_1.length co21, .slice none 0 0]) ?_ 1 _ rfl; (with_reducible repeat (first | refine blk_drewN ?_ _ | refine blk_drew ?_ | refine blk_alloc ?_ _)); refine blk_put (cs := #[.slice none 0 0, .slice none 0 0]) ?_ 0 _ rfl; (with_reducible repeat (first | refine blk_drewN ?_ _ | refine blk_drew ?_ | refine blk_alloc ?_ _)); refine blk_far ?_ NB225_232.out _; (with_reducible repeat (first | refine blk_drewN ?_ _ | refine blk_drew ?_ | refine blk_alloc ?_ _)); refine blk_far ?_ NB225_232.out _; (with_reducible repeat (first | refine blk_drewN ?_ _ | refine blk_drew ?_ | refine blk_alloc ?_ _)); refine blk_far ?_ NB225_232.out _; (with_reducible repeat (first | refine blk_drewN ?_ _ | refine blk_drew ?_ | refine blk_alloc ?_ _)); exact BK225.out) Try.underlying39 rfl (by kernel_rfl)) rfl ?_
       exact ⟨_, _, by first | rfl | (simp [errW_none, errW_some] <;> rfl) | (simp [*, errW_none, errW_some] <;> rfl), by (with_reducible repeat (first | apply Kd.R_alloc | apply Kd.R_drewN | apply Kd.R_drew)); exact Kd.R_mono (Kd.R_far (p := ⟨gb225, 1, none⟩) (Kd.R_far (p := ⟨gb225, 0, none⟩) (Kd.R_far (p := ⟨gb232, 2, none⟩) (Kd.R_far (p := ⟨gb232, 1, none⟩) (Kd.R_far (p := ⟨gb232, 0, none⟩) (Kd.R_types (Kd.R_types HO_a0.out BK232.out (by decide)) BK225.out (by decide)) (fun _ hk => hk.1.2) (.int .i32 ((rd_T66 l0 x19_1).f0))) (fun _ hk => hk.1.2) (.int .i64 ((rd_T66 l0 x19_1).f1))) (fun _ hk => hk.1.2) (.int .i64 ((rd_T66 l0 x19_1).f2))) (fun _ hk => hk.2) (.slice Ao21 xa0_1.length co21)) (fun _ hk => hk.2) (.slice Ao23 xa1_1.length co23)) (fun _ hk => trivial), by (with_reducible repeat (first | apply Kd.R_alloc | apply Kd.R_drewN | apply Kd.R_drew)); exact Kd.R_mono (Kd.R_far (p := ⟨gb225, 1, none⟩) (Kd.R_far (p := ⟨gb225, 0, none⟩) (Kd.R_far (p := ⟨gb232, 2, none⟩) (Kd.R_far (p := ⟨gb232, 1, none⟩) (Kd.R_far (p := ⟨gb232, 0, none⟩) (Kd.R_types (Kd.R_types HO_a1.out BK232.out (by decide)) BK225.out (by decide)) (fun _ hk => hk.1.2) (.int .i32 ((rd_T66 l0 x19_1).f0))) (fun _ hk => hk.1.2) (.int .i64 ((rd_T66 l0 x19_1).f1))) (fun _ hk => hk.1.2) (.int .i64 ((rd_T66 l0 x19_1).f2))) (fun _ hk => hk.2) (.slice Ao21 xa0_1.length co21)) (fun _ hk => hk.2) (.slice Ao23 xa1_1.length co23)) (fun _ hk => trivial), by repeat (first | (with_reducible first | exact HB.out | apply below_alloc | apply pw_below_drewN | apply below_drew1 | refine below_set ?_ GE225.out | refine below_set ?_ GE230.out | refine below_set ?_ GE232.out) | exact HB.out)⟩
      ·rw [if_neg c14] at H
       have c14b0 : (((rd_T66 l0 x19_1).f0) == 65533) = false := beq_eq_false_iff_ne.mpr c14
       have c14b1 : (((rd_T66 l0 x19_1).f0) != 65533) = true := bne_iff_ne.mpr c14
       have HC24 := Aside0.mk H
       clear H
       have p231 : 0 ≤ (x19_1 : Int) := of_decide_eq_true (by first | (with_reducible assumption) | assumption)
       have q231 : x19_1 < (l0.length : Int) := of_decide_eq_true (by first | (with_reducible assumption) | assumption)
       obtain ⟨ad231, e231, hx231_0, hx231_1, hx231_2⟩ := at_T66 HR0.out x19_1 p231 q231
       cases e231
       replace hx231_0 := (HB.out.cell (World.block_lt_of_cell? w _ hx231_0)).trans hx231_0
       replace hx231_1 := (HB.out.cell (World.block_lt_of_cell? w _ hx231_1)).trans hx231_1
       replace hx231_2 := (HB.out.cell (World.block_lt_of_cell? w _ hx231_2)).trans hx231_2
       replace p231 := eq_true p231
       replace q231 := eq_true q231
       go_upto_region 13 with (first | ((with_reducible refine gate_dst (N := 9) rfl ?_); (try (refine gate_guard (by rfl) ?_; dsimp only)); refine box_event ?hg (N := 9) ?hd (cs := #[.int .i32 0, .int .i64 0, .int .i64 0]) (t := 66) ?hr ?_; (case hd => rfl); (case hg => rfl); (case hr => first | (go_simp; done) | (go_simp; rfl)); intro gb232 hg w25 hbox hb; have n0_ := Aside0.mk (Kd.R_below (by (with_reducible repeat (first | apply Kd.R_alloc | apply Kd.R_drewN | apply Kd.R_drew)); exact HO_a0.out) hb); have n1_ := Aside0.mk (Kd.R_below (by (with_reducible repeat (first | apply Kd.R_alloc | apply Kd.R_drewN | apply Kd.R_drew)); exact HO_a1.out) hb); have n2_ := Aside0.mk (blk_below (g := gb225) (o := .cells #[.slice none 0 0, .slice none 0 0] 39 (0, 0)) (by (with_reducible repeat (first | refine blk_drewN ?_ _ | refine blk_drew ?_ | refine blk_alloc ?_ _)); exact BK225.out) hb); have n3_ := Aside0.mk (blk_below (g := gb230) (o := .cells #[ua0, ua1] 39 (0, 0)) (by (with_reducible repeat (first | refine blk_drewN ?_ _ | refine blk_drew ?_ | refine blk_alloc ?_ _)); exact BK230.out) hb); have n4_ := Aside0.mk (below_step (by repeat (first | (with_reducible first | exact HB.out | apply below_alloc | apply pw_below_drewN | apply below_drew1 | refine below_set ?_ GE225.out | refine below_set ?_ GE230.out) | exact HB.out)) hb); have n5_ := Aside0.mk (hbox); have n6_ := Aside0.mk ((by rw [hg]; exact (below_size (by repeat (first | (with_reducible first | exact HB.out | apply below_alloc | apply pw_below_drewN | apply below_drew1 | refine below_set ?_ GE225.out | refine below_set ?_ GE230.out) | exact HB.out))) : w.heap.size ≤ gb232)); have n7_ := Aside0.mk ((by rw [hg]; exact (below_size (by repeat (first | (with_reducible first | exact HB.out | apply below_alloc | apply pw_below_drewN | apply below_drew1 | refine below_set ?_ GE225.out | refine below_set ?_ GE230.out) | exact HB.out))) : w.heap.size ≤ gb232)); have n8_ := Aside0.mk ((by rw [hg]; exact Nat.ne_of_lt (blk_lt (g := gb225) (o := .cells #[.slice none 0 0, .slice none 0 0] 39 (0, 0)) (by (with_reducible repeat (first | refine blk_drewN ?_ _ | refine blk_drew ?_ | refine blk_alloc ?_ _)); exact BK225.out)) : gb225 ≠ gb232)); have n9_ := Aside0.mk ((by rw [hg]; exact Nat.ne_of_gt (blk_lt (g := gb225) (o := .cells #[.slice none 0 0, .slice none 0 0] 39 (0, 0)) (by (with_reducible repeat (first | refine blk_drewN ?_ _ | refine blk_drew ?_ | refine blk_alloc ?_ _)); exact BK225.out)) : gb232 ≠ gb225)); have n10_ := Aside0.mk ((by rw [hg]; exact Nat.ne_of_lt (blk_lt (g := gb230) (o := .cells #[ua0, ua1] 39 (0, 0)) (by (with_reducible repeat (first | refine blk_drewN ?_ _ | refine blk_drew ?_ | refine blk_alloc ?_ _)); exact BK230.out)) : gb230 ≠ gb232)); have n11_ := Aside0.mk ((by rw [hg]; exact Nat.ne_of_gt (blk_lt (g := gb230) (o := .cells #[ua0, ua1] 39 (0, 0)) (by (with_reducible repeat (first | refine blk_drewN ?_ _ | refine blk_drew ?_ | refine blk_alloc ?_ _)); exact BK230.out)) : gb232 ≠ gb230)); clear HO_a0; clear HO_a1; clear BK225; clear BK230; clear HB; have HO_a0 := n0_; have HO_a1 := n1_; have BK225 := n2_; have BK230 := n3_; have HB := n4_; have BK232 := n5_; have GW232 := n6_; have GE232 := n7_; have NB225_232 := n8_; have NB232_225 := n9_; have NB230_232 := n10_; have NB232_230 := n11_; clear n0_ n1_ n2_ n3_ n4_ n5_ n6_ n7_ n8_ n9_ n10_ n11_; clear hb hbox hg; have hnb26 := NB232_225.out; have hnc26 := NB225_232.out; have hnb27 := NB232_230.out; have hnc27 := NB230_232.out; have hcz28_0 : w25.cell? ⟨gb232, 0, none⟩ = some (.int .i32 0) := (blk_cell BK232.out 0).trans rfl; have hcz28_1 : w25.cell? ⟨gb232, 1, none⟩ = some (.int .i64 0) := (blk_cell BK232.out 1).trans rfl; have hcz28_2 : w25.cell? ⟨gb232, 2, none⟩ = some (.int .i64 0) := (blk_cell BK232.out 2).trans rfl; have hfz28_0 := blk_frozen BK232.out 0; have hfz28_1 := blk_frozen BK232.out 1; have hfz28_2 := blk_frozen BK232.out 2; have hnb29 := NB230_225.out; have hnc29 := NB225_230.out; have hcz30_0 : w25.cell? ⟨gb230, 0, none⟩ = some (ua0) := (blk_cell BK230.out 0).trans rfl; have hcz30_1 : w25.cell? ⟨gb230, 1, none⟩ = some (ua1) := (blk_cell BK230.out 1).trans rfl; have hfz30_0 := blk_frozen BK230.out 0; have hfz30_1 := blk_frozen BK230.out 1; obtain ⟨Ao31, co31, eo31⟩ := Kd.R_slice HO_a0.out; subst eo31))
       (try simp only [Act.put, List.setIfInBounds_toArray, List.set_cons_zero, List.set_cons_succ])
       go_cut [46] (fun v46 wc => ∃ (kq : Nat) (x46_23 : Bool), v46 = .bool x46_23 ∧ Aside0 (pats_one.j1 kq l0 t226 x6_1 x7_1 x19_1 (xa0_1.length : Int) l0 (l0.length : Int) x19_1 x46_23 xa0_1 xa1_1 ((rd_T66 l0 x19_1).f0) ((rd_T66 l0 x19_1).f1) ((rd_T66 l0 x19_1).f2) = some (r1, r2, r3)) ∧ Aside0 (kq ≤ k1) ∧ Aside0 (Kd.R (Kd.int .i32) 21 wc w.heap.size (fun _ => True) (.slice Ao31 xa0_1.length co31) xa0_1) ∧ Aside0 (Kd.R (Kd.int .u8) 5 wc w.heap.size (fun _ => True) ua1 xa1_1) ∧ Aside0 (wc.heap[gb225]? = some (.cells #[(.slice none 0 0), (.slice none 0 0)] 39 (0, 0))) ∧ Aside0 (wc.heap[gb230]? = some (.cells #[(.slice Ao31 xa0_1.length co31), ua1] 39 (0, 0))) ∧ Aside0 (wc.heap[gb232]? = some (.cells #[.int .i32 ((rd_T66 l0 x19_1).f0), .int .i64 ((rd_T66 l0 x19_1).f1), .int .i64 ((rd_T66 l0 x19_1).f2)] 66 (0, 0))) ∧ Aside0 (Below w.heap.size w wc))
       case first =>
        have H := HC24.out
        clear HC24
        by_cases c32 : ((rd_T66 l0 x19_1).f0) = 45
        ·rw [if_pos c32] at H
         have c32b0 : (((rd_T66 l0 x19_1).f0) == 45) = true := beq_iff_eq.mpr c32
         have c32b1 : (((rd_T66 l0 x19_1).f0) != 45) = false := bne_eq_false_iff_eq.mpr c32
         clear c32
         (first | rw [c32b0] | (simp only [i64_w, i32_w]; rw [c32b0]) | skip)
         have H' := Aside0.mk H
         clear H
         have hnb33 := NB232_225.out
         have hnc33 := NB225_232.out
         have hnb34 := NB232_230.out
         have hnc34 := NB230_232.out
         have hcz35_0 : w25.cell? ⟨gb232, 0, none⟩ = some (.int .i32 0) := (blk_cell BK232.out 0).trans rfl
         have hcz35_1 : w25.cell? ⟨gb232, 1, none⟩ = some (.int .i64 0) := (blk_cell BK232.out 1).trans rfl
         have hcz35_2 : w25.cell? ⟨gb232, 2, none⟩ = some (.int .i64 0) := (blk_cell BK232.out 2).trans rfl
         have hfz35_0 := blk_frozen BK232.out 0
         have hfz35_1 := blk_frozen BK232.out 1
         have hfz35_2 := blk_frozen BK232.out 2
         go_wp2
         go_meet
         case rel => exact ⟨_, (true), (by first | rfl | (simp; done) | (simp [*]; done)), H', ⟨by have := HK1.out; first | omega | exact Nat.le_refl _⟩, ⟨by (with_reducible repeat (first | apply Kd.R_alloc | apply Kd.R_drewN | apply Kd.R_drew)); exact Kd.R_mono (Kd.R_far (p := ⟨gb232, 2, none⟩) (Kd.R_far (p := ⟨gb232, 1, none⟩) (Kd.R_far (p := ⟨gb232, 0, none⟩) (Kd.R_types HO_a0.out BK232.out (by decide)) (fun _ hk => hk.2) (.int .i32 ((rd_T66 l0 x19_1).f0))) (fun _ hk => hk.2) (.int .i64 ((rd_T66 l0 x19_1).f1))) (fun _ hk => hk.2) (.int .i64 ((rd_T66 l0 x19_1).f2))) (fun _ hk => trivial)⟩, ⟨by (with_reducible repeat (first | apply Kd.R_alloc | apply Kd.R_drewN | apply Kd.R_drew)); exact Kd.R_mono (Kd.R_far (p := ⟨gb232, 2, none⟩) (Kd.R_far (p := ⟨gb232, 1, none⟩) (Kd.R_far (p := ⟨gb232, 0, none⟩) (Kd.R_types HO_a1.out BK232.out (by decide)) (fun _ hk => hk.2) (.int .i32 ((rd_T66 l0 x19_1).f0))) (fun _ hk => hk.2) (.int .i64 ((rd_T66 l0 x19_1).f1))) (fun _ hk => hk.2) (.int .i64 ((rd_T66 l0 x19_1).f2))) (fun _ hk => trivial)⟩, ⟨by (with_reducible repeat (first | refine blk_drewN ?_ _ | refine blk_drew ?_ | refine blk_alloc ?_ _)); refine blk_far ?_ NB225_232.out _; (with_reducible repeat (first | refine blk_drewN ?_ _ | refine blk_drew ?_ | refine blk_alloc ?_ _)); refine blk_far ?_ NB225_232.out _; (with_reducible repeat (first | refine blk_drewN ?_ _ | refine blk_drew ?_ | refine blk_alloc ?_ _)); refine blk_far ?_ NB225_232.out _; (with_reducible repeat (first | refine blk_drewN ?_ _ | refine blk_drew ?_ | refine blk_alloc ?_ _)); exact BK225.out⟩, ⟨by (with_reducible repeat (first | refine blk_drewN ?_ _ | refine blk_drew ?_ | refine blk_alloc ?_ _)); refine blk_far ?_ NB230_232.out _; (with_reducible repeat (first | refine blk_drewN ?_ _ | refine blk_drew ?_ | refine blk_alloc ?_ _)); refine blk_far ?_ NB230_232.out _; (with_reducible repeat (first | refine blk_drewN ?_ _ | refine blk_drew ?_ | refine blk_alloc ?_ _)); refine blk_far ?_ NB230_232.out _; (with_reducible repeat (first | refine blk_drewN ?_ _ | refine blk_drew ?_ | refine blk_alloc ?_ _)); exact BK230.out⟩, ⟨by (with_reducible repeat (first | refine blk_drewN ?_ _ | refine blk_drew ?_ | refine blk_alloc ?_ _)); refine blk_put (cs := #[.int .i32 ((rd_T66 l0 x19_1).f0), .int .i64 ((rd_T66 l0 x19_1).f1), .int .i64 0]) ?_ 2 _ rfl; (with_reducible repeat (first | refine blk_drewN ?_ _ | refine blk_drew ?_ | refine blk_alloc ?_ _)); refine blk_put (cs := #[.int .i32 ((rd_T66 l0 x19_1).f0), .int .i64 0, .int .i64 0]) ?_ 1 _ rfl; (with_reducible repeat (first | refine blk_drewN ?_ _ | refine blk_drew ?_ | refine blk_alloc ?_ _)); refine blk_put (cs := #[.int .i32 0, .int .i64 0, .int .i64 0]) ?_ 0 _ rfl; (with_reducible repeat (first | refine blk_drewN ?_ _ | refine blk_drew ?_ | refine blk_alloc ?_ _)); exact BK232.out⟩, ⟨by repeat (first | (with_reducible first | exact HB.out | apply below_alloc | apply pw_below_drewN | apply below_drew1 | refine below_set ?_ GE225.out | refine below_set ?_ GE230.out | refine below_set ?_ GE232.out) | exact HB.out)⟩⟩
        ·rw [if_neg c32] at H
         have c32b0 : (((rd_T66 l0 x19_1).f0) == 45) = false := beq_eq_false_iff_ne.mpr c32
         have c32b1 : (((rd_T66 l0 x19_1).f0) != 45) = true := bne_iff_ne.mpr c32
         (first | rw [c32b0] | (simp only [i64_w, i32_w]; rw [c32b0]) | skip)
         by_cases c36 : ((rd_T66 l0 x19_1).f0) ≥ 48
         ·rw [if_pos c36] at H
          have c36b0 : decide (48 ≤ ((rd_T66 l0 x19_1).f0)) = true := decide_eq_true c36
          clear c36
          have H' := Aside0.mk H
          clear H
          have hnb37 := NB232_225.out
          have hnc37 := NB225_232.out
          have hnb38 := NB232_230.out
          have hnc38 := NB230_232.out
          have hcz39_0 : w25.cell? ⟨gb232, 0, none⟩ = some (.int .i32 0) := (blk_cell BK232.out 0).trans rfl
          have hcz39_1 : w25.cell? ⟨gb232, 1, none⟩ = some (.int .i64 0) := (blk_cell BK232.out 1).trans rfl
          have hcz39_2 : w25.cell? ⟨gb232, 2, none⟩ = some (.int .i64 0) := (blk_cell BK232.out 2).trans rfl
          have hfz39_0 := blk_frozen BK232.out 0
          have hfz39_1 := blk_frozen BK232.out 1
          have hfz39_2 := blk_frozen BK232.out 2
          go_wp2
          go_meet
          case rel => exact ⟨_, (decide (((rd_T66 l0 x19_1).f0) ≤ 57)), (by first | rfl | (simp; done) | (simp [*]; done)), H', ⟨by have := HK1.out; first | omega | exact Nat.le_refl _⟩, ⟨by (with_reducible repeat (first | apply Kd.R_alloc | apply Kd.R_drewN | apply Kd.R_drew)); exact Kd.R_mono (Kd.R_far (p := ⟨gb232, 2, none⟩) (Kd.R_far (p := ⟨gb232, 1, none⟩) (Kd.R_far (p := ⟨gb232, 0, none⟩) (Kd.R_types HO_a0.out BK232.out (by decide)) (fun _ hk => hk.2) (.int .i32 ((rd_T66 l0 x19_1).f0))) (fun _ hk => hk.2) (.int .i64 ((rd_T66 l0 x19_1).f1))) (fun _ hk => hk.2) (.int .i64 ((rd_T66 l0 x19_1).f2))) (fun _ hk => trivial)⟩, ⟨by (with_reducible repeat (first | apply Kd.R_alloc | apply Kd.R_drewN | apply Kd.R_drew)); exact Kd.R_mono (Kd.R_far (p := ⟨gb232, 2, none⟩) (Kd.R_far (p := ⟨gb232, 1, none⟩) (Kd.R_far (p := ⟨gb232, 0, none⟩) (Kd.R_types HO_a1.out BK232.out (by decide)) (fun _ hk => hk.2) (.int .i32 ((rd_T66 l0 x19_1).f0))) (fun _ hk => hk.2) (.int .i64 ((rd_T66 l0 x19_1).f1))) (fun _ hk => hk.2) (.int .i64 ((rd_T66 l0 x19_1).f2))) (fun _ hk => trivial)⟩, ⟨by (with_reducible repeat (first | refine blk_drewN ?_ _ | refine blk_drew ?_ | refine blk_alloc ?_ _)); refine blk_far ?_ NB225_232.out _; (with_reducible repeat (first | refine blk_drewN ?_ _ | refine blk_drew ?_ | refine blk_alloc ?_ _)); refine blk_far ?_ NB225_232.out _; (with_reducible repeat (first | refine blk_drewN ?_ _ | refine blk_drew ?_ | refine blk_alloc ?_ _)); refine blk_far ?_ NB225_232.out _; (with_reducible repeat (first | refine blk_drewN ?_ _ | refine blk_drew ?_ | refine blk_alloc ?_ _)); exact BK225.out⟩, ⟨by (with_reducible repeat (first | refine blk_drewN ?_ _ | refine blk_drew ?_ | refine blk_alloc ?_ _)); refine blk_far ?_ NB230_232.out _; (with_reducible repeat (first | refine blk_drewN ?_ _ | refine blk_drew ?_ | refine blk_alloc ?_ _)); refine blk_far ?_ NB230_232.out _; (with_reducible repeat (first | refine blk_drewN ?_ _ | refine blk_drew ?_ | refine blk_alloc ?_ _)); refine blk_far ?_ NB230_232.out _; (with_reducible repeat (first | refine blk_drewN ?_ _ | refine blk_drew ?_ | refine blk_alloc ?_ _)); exact BK230.out⟩, ⟨by (with_reducible repeat (first | refine blk_drewN ?_ _ | refine blk_drew ?_ | refine blk_alloc ?_ _)); refine blk_put (cs := #[.int .i32 ((rd_T66 l0 x19_1).f0), .int .i64 ((rd_T66 l0 x19_1).f1), .int .i64 0]) ?_ 2 _ rfl; (with_reducible repeat (first | refine blk_drewN ?_ _ | refine blk_drew ?_ | refine blk_alloc ?_ _)); refine blk_put (cs := #[.int .i32 ((rd_T66 l0 x19_1).f0), .int .i64 0, .int .i64 0]) ?_ 1 _ rfl; (with_reducible repeat (first | refine blk_drewN ?_ _ | refine blk_drew ?_ | refine blk_alloc ?_ _)); refine blk_put (cs := #[.int .i32 0, .int .i64 0, .int .i64 0]) ?_ 0 _ rfl; (with_reducible repeat (first | refine blk_drewN ?_ _ | refine blk_drew ?_ | refine blk_alloc ?_ _)); exact BK232.out⟩, ⟨by repeat (first | (with_reducible first | exact HB.out | apply below_alloc | apply pw_below_drewN | apply below_drew1 | refine below_set ?_ GE225.out | refine below_set ?_ GE230.out | refine below_set ?_ GE232.out) | exact HB.out)⟩⟩
         ·rw [if_neg c36] at H
          have c36b0 : decide (48 ≤ ((rd_T66 l0 x19_1).f0)) = false := decide_eq_false c36
          clear c36
          have H' := Aside0.mk H
          clear H
          have hnb40 := NB232_225.out
          have hnc40 := NB225_232.out
          have hnb41 := NB232_230.out
          have hnc41 := NB230_232.out
          have hcz42_0 : w25.cell? ⟨gb232, 0, none⟩ = some (.int .i32 0) := (blk_cell BK232.out 0).trans rfl
          have hcz42_1 : w25.cell? ⟨gb232, 1, none⟩ = some (.int .i64 0) := (blk_cell BK232.out 1).trans rfl
          have hcz42_2 : w25.cell? ⟨gb232, 2, none⟩ = some (.int .i64 0) := (blk_cell BK232.out 2).trans rfl
          have hfz42_0 := blk_frozen BK232.out 0
          have hfz42_1 := blk_frozen BK232.out 1
          have hfz42_2 := blk_frozen BK232.out 2
          go_wp2
          go_meet
          case rel => exact ⟨_, (false), (by first | rfl | (simp; done) | (simp [*]; done)), H', ⟨by have := HK1.out; first | omega | exact Nat.le_refl _⟩, ⟨by (with_reducible repeat (first | apply Kd.R_alloc | apply Kd.R_drewN | apply Kd.R_drew)); exact Kd.R_mono (Kd.R_far (p := ⟨gb232, 2, none⟩) (Kd.R_far (p := ⟨gb232, 1, none⟩) (Kd.R_far (p := ⟨gb232, 0, none⟩) (Kd.R_types HO_a0.out BK232.out (by decide)) (fun _ hk => hk.2) (.int .i32 ((rd_T66 l0 x19_1).f0))) (fun _ hk => hk.2) (.int .i64 ((rd_T66 l0 x19_1).f1))) (fun _ hk => hk.2) (.int .i64 ((rd_T66 l0 x19_1).f2))) (fun _ hk => trivial)⟩, ⟨by (with_reducible repeat (first | apply Kd.R_alloc | apply Kd.R_drewN | apply Kd.R_drew)); exact Kd.R_mono (Kd.R_far (p := ⟨gb232, 2, none⟩) (Kd.R_far (p := ⟨gb232, 1, none⟩) (Kd.R_far (p := ⟨gb232, 0, none⟩) (Kd.R_types HO_a1.out BK232.out (by decide)) (fun _ hk => hk.2) (.int .i32 ((rd_T66 l0 x19_1).f0))) (fun _ hk => hk.2) (.int .i64 ((rd_T66 l0 x19_1).f1))) (fun _ hk => hk.2) (.int .i64 ((rd_T66 l0 x19_1).f2))) (fun _ hk => trivial)⟩, ⟨by (with_reducible repeat (first | refine blk_drewN ?_ _ | refine blk_drew ?_ | refine blk_alloc ?_ _)); refine blk_far ?_ NB225_232.out _; (with_reducible repeat (first | refine blk_drewN ?_ _ | refine blk_drew ?_ | refine blk_alloc ?_ _)); refine blk_far ?_ NB225_232.out _; (with_reducible repeat (first | refine blk_drewN ?_ _ | refine blk_drew ?_ | refine blk_alloc ?_ _)); refine blk_far ?_ NB225_232.out _; (with_reducible repeat (first | refine blk_drewN ?_ _ | refine blk_drew ?_ | refine blk_alloc ?_ _)); exact BK225.out⟩, ⟨by (with_reducible repeat (first | refine blk_drewN ?_ _ | refine blk_drew ?_ | refine blk_alloc ?_ _)); refine blk_far ?_ NB230_232.out _; (with_reducible repeat (first | refine blk_drewN ?_ _ | refine blk_drew ?_ | refine blk_alloc ?_ _)); refine blk_far ?_ NB230_232.out _; (with_reducible repeat (first | refine blk_drewN ?_ _ | refine blk_drew ?_ | refine blk_alloc ?_ _)); refine blk_far ?_ NB230_232.out _; (with_reducible repeat (first | refine blk_drewN ?_ _ | refine blk_drew ?_ | refine blk_alloc ?_ _)); exact BK230.out⟩, ⟨by (with_reducible repeat (first | refine blk_drewN ?_ _ | refine blk_drew ?_ | refine blk_alloc ?_ _)); refine blk_put (cs := #[.int .i32 ((rd_T66 l0 x19_1).f0), .int .i64 ((rd_T66 l0 x19_1).f1), .int .i64 0]) ?_ 2 _ rfl; (with_reducible repeat (first | refine blk_drewN ?_ _ | refine blk_drew ?_ | refine blk_alloc ?_ _)); refine blk_put (cs := #[.int .i32 ((rd_T66 l0 x19_1).f0), .int .i64 0, .int .i64 0]) ?_ 1 _ rfl; (with_reducible repeat (first | refine blk_drewN ?_ _ | refine blk_drew ?_ | refine blk_alloc ?_ _)); refine blk_put (cs := #[.int .i32 0, .int .i64 0, .int .i64 0]) ?_ 0 _ rfl; (with_reducible repeat (first | refine blk_drewN ?_ _ | refine blk_drew ?_ | refine blk_alloc ?_ _)); exact BK232.out⟩, ⟨by repeat (first | (with_reducible first | exact HB.out | apply below_alloc | apply pw_below_drewN | apply below_drew1 | refine below_set ?_ GE225.out | refine below_set ?_ GE230.out | refine below_set ?_ GE232.out) | exact HB.out)⟩⟩
       case rest =>
        clear HC24
        try clear c1
        try clear c2
        try clear p2
        try clear q2
        try clear hx2
        try clear c3
        try clear c4
        try clear c5
        try clear c9
        try clear c11
        try clear c11b0
        try clear c12
        try clear c12b0
        try clear c13
        try clear c13b0
        try clear c14
        try clear c14b0
        try clear c14b1
        try clear c16
        try clear c17
        try clear c19
        try clear p23
        try clear q23
        try clear hx23
        try clear c26
        try clear c27
        try clear c29
        try clear c32
        try clear c32b0
        try clear c32b1
        try clear c33
        try clear c34
        try clear c36
        try clear c36b0
        try clear c37
        try clear c38
        try clear c40
        try clear c41
        try clear hcz10_0
        try clear hcz10_1
        try clear hcz18_0
        try clear hcz18_1
        try clear hcz18_2
        try clear hcz20_0
        try clear hcz20_1
        try clear hcz22_0
        try clear hcz22_1
        try clear hcz28_0
        try clear hcz28_1
        try clear hcz28_2
        try clear hcz30_0
        try clear hcz30_1
        try clear hcz35_0
        try clear hcz35_1
        try clear hcz35_2
        try clear hcz39_0
        try clear hcz39_1
        try clear hcz39_2
        try clear hcz42_0
        try clear hcz42_1
        try clear hcz42_2
        try clear hfz10_0
        try clear hfz10_1
        try clear hfz18_0
        try clear hfz18_1
        try clear hfz18_2
        try clear hfz20_0
        try clear hfz20_1
        try clear hfz22_0
        try clear hfz22_1
        try clear hfz28_0
        try clear hfz28_1
        try clear hfz28_2
        try clear hfz30_0
        try clear hfz30_1
        try clear hfz35_0
        try clear hfz35_1
        try clear hfz35_2
        try clear hfz39_0
        try clear hfz39_1
        try clear hfz39_2
        try clear hfz42_0
        try clear hfz42_1
        try clear hfz42_2
        try clear hx231_0
        try clear hx231_1
        try clear hx231_2
        try clear p2
        try clear p231
        try clear q231
        obtain ⟨kq, x46_23, rfl, HA, HJ23, HO_a0, HO_a1, BK225, BK230, BK232, HB⟩ := hcut
        cases kq with
        | zero => exact absurd HA.out (by simp [pats_one.j1])
        | succ kj23 =>
         have H := HA.out
         clear HA
         simp only [pats_one.j1] at H
         by_cases c43 : x46_23 = true
         ·subst c43
          have H1 : (if x6_1 = true then (pats_one.j2 kj23 l0 t226 x7_1 (xa0_1.length : Int) l0 (l0.length : Int) x19_1 true xa0_1 xa1_1 ((rd_T66 l0 x19_1).f0) ((rd_T66 l0 x19_1).f1) ((rd_T66 l0 x19_1).f2)) else (if (t226 != (((rd_T66 l0 x19_1).f0) == 45)) = true then (pats_one.j2 kj23 l0 t226 x7_1 (xa0_1.length : Int) l0 (l0.length : Int) x19_1 true xa0_1 xa1_1 ((rd_T66 l0 x19_1).f0) ((rd_T66 l0 x19_1).f1) ((rd_T66 l0 x19_1).f2)) else (if t226 = true then (if (xa0_1.length : Int) = 0 then (pats_one.j2 kj23 l0 t226 x7_1 (xa0_1.length : Int) l0 (l0.length : Int) x19_1 true xa0_1 xa1_1 ((rd_T66 l0 x19_1).f0) ((rd_T66 l0 x19_1).f1) ((rd_T66 l0 x19_1).f2)) else (pats_one.j2 kj23 l0 t226 x7_1 (xa0_1.length : Int) l0 (l0.length : Int) x19_1 (x19_1 == (wrap64 ((l0.length : Int) - 1))) xa0_1 xa1_1 ((rd_T66 l0 x19_1).f0) ((rd_T66 l0 x19_1).f1) ((rd_T66 l0 x19_1).f2))) else (pats_one.j2 kj23 l0 t226 x7_1 (xa0_1.length : Int) l0 (l0.length : Int) x19_1 false xa0_1 xa1_1 ((rd_T66 l0 x19_1).f0) ((rd_T66 l0 x19_1).f1) ((rd_T66 l0 x19_1).f2))))) = some (r1, r2, r3) := by rw [if_pos rfl] at H; exact H
          clear H
          have H := H1
          clear H1
          have HC44 := Aside0.mk H
          clear H
          go_upto_region 14 with (fail)
          go_cut [81] (fun v81 wc => ∃ (kq : Nat) (x81_43 : Bool), v81 = .bool x81_43 ∧ Aside0 (pats_one.j2 kq l0 t226 x7_1 (xa0_1.length : Int) l0 (l0.length : Int) x19_1 x81_43 xa0_1 xa1_1 ((rd_T66 l0 x19_1).f0) ((rd_T66 l0 x19_1).f1) ((rd_T66 l0 x19_1).f2) = some (r1, r2, r3)) ∧ Aside0 (kq ≤ kj23) ∧ Aside0 (Kd.R (Kd.int .i32) 21 wc w.heap.size (fun _ => True) (.slice Ao31 xa0_1.length co31) xa0_1) ∧ Aside0 (Kd.R (Kd.int .u8) 5 wc w.heap.size (fun _ => True) ua1 xa1_1) ∧ Aside0 (wc.heap[gb225]? = some (.cells #[(.slice none 0 0), (.slice none 0 0)] 39 (0, 0))) ∧ Aside0 (wc.heap[gb230]? = some (.cells #[(.slice Ao31 xa0_1.length co31), ua1] 39 (0, 0))) ∧ Aside0 (wc.heap[gb232]? = some (.cells #[.int .i32 ((rd_T66 l0 x19_1).f0), .int .i64 ((rd_T66 l0 x19_1).f1), .int .i64 ((rd_T66 l0 x19_1).f2)] 66 (0, 0))) ∧ Aside0 (Below w.heap.size w wc))
          case first =>
           have H := HC44.out
           clear HC44
           by_cases c45 : x6_1 = true
           ·subst c45
            have H1 : (pats_one.j2 kj23 l0 t226 x7_1 (xa0_1.length : Int) l0 (l0.length : Int) x19_1 true xa0_1 xa1_1 ((rd_T66 l0 x19_1).f0) ((rd_T66 l0 x19_1).f1) ((rd_T66 l0 x19_1).f2)) = some (r1, r2, r3) := by rw [if_pos rfl] at H; exact H
            clear H
            have H := H1
            clear H1
            have H' := Aside0.mk H
            clear H
            go_wp2
            go_meet
            case rel => exact ⟨_, (true), (by first | rfl | (simp; done) | (simp [*]; done)), H', ⟨by have := HK1.out; have := HJ23.out; first | omega | exact Nat.le_refl _⟩, ⟨by (with_reducible repeat (first | apply Kd.R_alloc | apply Kd.R_drewN | apply Kd.R_drew)); exact HO_a0.out⟩, ⟨by (with_reducible repeat (first | apply Kd.R_alloc | apply Kd.R_drewN | apply Kd.R_drew)); exact HO_a1.out⟩, ⟨by (with_reducible repeat (first | refine blk_drewN ?_ _ | refine blk_drew ?_ | refine blk_alloc ?_ _)); exact BK225.out⟩, ⟨by (with_reducible repeat (first | refine blk_drewN ?_ _ | refine blk_drew ?_ | refine blk_alloc ?_ _)); exact BK230.out⟩, ⟨by (with_reducible repeat (first | refine blk_drewN ?_ _ | refine blk_drew ?_ | refine blk_alloc ?_ _)); exact BK232.out⟩, ⟨by repeat (first | (with_reducible first | exact HB.out | apply below_alloc | apply pw_below_drewN | apply below_drew1 | refine below_set ?_ GE225.out | refine below_set ?_ GE230.out | refine below_set ?_ GE232.out) | exact HB.out)⟩⟩
           ·replace c45 := Bool.eq_false_iff.mpr c45
            subst c45
            have H1 : (if (t226 != (((rd_T66 l0 x19_1).f0) == 45)) = true then (pats_one.j2 kj23 l0 t226 x7_1 (xa0_1.length : Int) l0 (l0.length : Int) x19_1 true xa0_1 xa1_1 ((rd_T66 l0 x19_1).f0) ((rd_T66 l0 x19_1).f1) ((rd_T66 l0 x19_1).f2)) else (if t226 = true then (if (xa0_1.length : Int) = 0 then (pats_one.j2 kj23 l0 t226 x7_1 (xa0_1.length : Int) l0 (l0.length : Int) x19_1 true xa0_1 xa1_1 ((rd_T66 l0 x19_1).f0) ((rd_T66 l0 x19_1).f1) ((rd_T66 l0 x19_1).f2)) else (pats_one.j2 kj23 l0 t226 x7_1 (xa0_1.length : Int) l0 (l0.length : Int) x19_1 (x19_1 == (wrap64 ((l0.length : Int) - 1))) xa0_1 xa1_1 ((rd_T66 l0 x19_1).f0) ((rd_T66 l0 x19_1).f1) ((rd_T66 l0 x19_1).f2))) else (pats_one.j2 kj23 l0 t226 x7_1 (xa0_1.length : Int) l0 (l0.length : Int) x19_1 false xa0_1 xa1_1 ((rd_T66 l0 x19_1).f0) ((rd_T66 l0 x19_1).f1) ((rd_T66 l0 x19_1).f2)))) = some (r1, r2, r3) := by rw [if_neg (show ¬ (false = true) by decide)] at H; exact H
            clear H
            have H := H1
            clear H1
            by_cases c46 : (t226 != (((rd_T66 l0 x19_1).f0) == 45)) = true
            ·rw [if_pos c46] at H
             have c46b0 : (t226 != (((rd_T66 l0 x19_1).f0) == 45)) = true := c46
             (try (have c46b1 : decide (t226 = (((rd_T66 l0 x19_1).f0) == 45)) = false := by simpa using c46))
             (try (have c46b2 : (t226 == (((rd_T66 l0 x19_1).f0) == 45)) = false := by simpa using c46))
             (try (have c46b3 : ¬ (t226 = (((rd_T66 l0 x19_1).f0) == 45)) := by simpa using c46))
             clear c46
             (first | rw [c46b0] | (simp only [i64_w, i32_w]; rw [c46b0]) | skip)
             have H' := Aside0.mk H
             clear H
             have hnb47 := NB232_225.out
             have hnc47 := NB225_232.out
             have hnb48 := NB232_230.out
             have hnc48 := NB230_232.out
             have hcz49_0 : wc.cell? ⟨gb232, 0, none⟩ = some (.int .i32 ((rd_T66 l0 x19_1).f0)) := (blk_cell BK232.out 0).trans rfl
             have hcz49_1 : wc.cell? ⟨gb232, 1, none⟩ = some (.int .i64 ((rd_T66 l0 x19_1).f1)) := (blk_cell BK232.out 1).trans rfl
             have hcz49_2 : wc.cell? ⟨gb232, 2, none⟩ = some (.int .i64 ((rd_T66 l0 x19_1).f2)) := (blk_cell BK232.out 2).trans rfl
             have hfz49_0 := blk_frozen BK232.out 0
             have hfz49_1 := blk_frozen BK232.out 1
             have hfz49_2 := blk_frozen BK232.out 2
             go_wp2
             go_meet
             case rel => exact ⟨_, (true), (by first | rfl | (simp; done) | (simp [*]; done)), H', ⟨by have := HK1.out; have := HJ23.out; first | omega | exact Nat.le_refl _⟩, ⟨by (with_reducible repeat (first | apply Kd.R_alloc | apply Kd.R_drewN | apply Kd.R_drew)); exact HO_a0.out⟩, ⟨by (with_reducible repeat (first | apply Kd.R_alloc | apply Kd.R_drewN | apply Kd.R_drew)); exact HO_a1.out⟩, ⟨by (with_reducible repeat (first | refine blk_drewN ?_ _ | refine blk_drew ?_ | refine blk_alloc ?_ _)); exact BK225.out⟩, ⟨by (with_reducible repeat (first | refine blk_drewN ?_ _ | refine blk_drew ?_ | refine blk_alloc ?_ _)); exact BK230.out⟩, ⟨by (with_reducible repeat (first | refine blk_drewN ?_ _ | refine blk_drew ?_ | refine blk_alloc ?_ _)); exact BK232.out⟩, ⟨by repeat (first | (with_reducible first | exact HB.out | apply below_alloc | apply pw_below_drewN | apply below_drew1 | refine below_set ?_ GE225.out | refine below_set ?_ GE230.out | refine below_set ?_ GE232.out) | exact HB.out)⟩⟩
            ·rw [if_neg c46] at H
             have c46b0 : (t226 != (((rd_T66 l0 x19_1).f0) == 45)) = false := by simpa using c46
             (try (have c46b1 : decide (t226 = (((rd_T66 l0 x19_1).f0) == 45)) = true := by simpa using c46))
             (try (have c46b2 : (t226 == (((rd_T66 l0 x19_1).f0) == 45)) = true := by simpa using c46))
             clear c46
             (first | rw [c46b0] | (simp only [i64_w, i32_w]; rw [c46b0]) | skip)
             by_cases c50 : t226 = true
             ·subst c50
              have H1 : (if (xa0_1.length : Int) = 0 then (pats_one.j2 kj23 l0 true x7_1 (xa0_1.length : Int) l0 (l0.length : Int) x19_1 true xa0_1 xa1_1 ((rd_T66 l0 x19_1).f0) ((rd_T66 l0 x19_1).f1) ((rd_T66 l0 x19_1).f2)) else (pats_one.j2 kj23 l0 true x7_1 (xa0_1.length : Int) l0 (l0.length : Int) x19_1 (x19_1 == (wrap64 ((l0.length : Int) - 1))) xa0_1 xa1_1 ((rd_T66 l0 x19_1).f0) ((rd_T66 l0 x19_1).f1) ((rd_T66 l0 x19_1).f2))) = some (r1, r2, r3) := by rw [if_pos rfl] at H; exact H
              clear H
              have H := H1
              clear H1
              by_cases c51 : (xa0_1.length : Int) = 0
              ·rw [if_pos c51] at H
               have c51b0 : ((xa0_1.length : Int) == 0) = true := beq_iff_eq.mpr c51
               have c51b1 : ((xa0_1.length : Int) != 0) = false := bne_eq_false_iff_eq.mpr c51
               clear c51
               have H' := Aside0.mk H
               clear H
               have hnb52 := NB232_225.out
               have hnc52 := NB225_232.out
               have hnb53 := NB232_230.out
               have hnc53 := NB230_232.out
               have hcz54_0 : wc.cell? ⟨gb232, 0, none⟩ = some (.int .i32 ((rd_T66 l0 x19_1).f0)) := (blk_cell BK232.out 0).trans rfl
               have hcz54_1 : wc.cell? ⟨gb232, 1, none⟩ = some (.int .i64 ((rd_T66 l0 x19_1).f1)) := (blk_cell BK232.out 1).trans rfl
               have hcz54_2 : wc.cell? ⟨gb232, 2, none⟩ = some (.int .i64 ((rd_T66 l0 x19_1).f2)) := (blk_cell BK232.out 2).trans rfl
               have hfz54_0 := blk_frozen BK232.out 0
               have hfz54_1 := blk_frozen BK232.out 1
               have hfz54_2 := blk_frozen BK232.out 2
               go_wp2
               go_meet
               case rel => exact ⟨_, (true), (by first | rfl | (simp; done) | (simp [*]; done)), H', ⟨by have := HK1.out; have := HJ23.out; first | omega | exact Nat.le_refl _⟩, ⟨by (with_reducible repeat (first | apply Kd.R_alloc | apply Kd.R_drewN | apply Kd.R_drew)); exact HO_a0.out⟩, ⟨by (with_reducible repeat (first | apply Kd.R_alloc | apply Kd.R_drewN | apply Kd.R_drew)); exact HO_a1.out⟩, ⟨by (with_reducible repeat (first | refine blk_drewN ?_ _ | refine blk_drew ?_ | refine blk_alloc ?_ _)); exact BK225.out⟩, ⟨by (with_reducible repeat (first | refine blk_drewN ?_ _ | refine blk_drew ?_ | refine blk_alloc ?_ _)); exact BK230.out⟩, ⟨by (with_reducible repeat (first | refine blk_drewN ?_ _ | refine blk_drew ?_ | refine blk_alloc ?_ _)); exact BK232.out⟩, ⟨by repeat (first | (with_reducible first | exact HB.out | apply below_alloc | apply pw_below_drewN | apply below_drew1 | refine below_set ?_ GE225.out | refine below_set ?_ GE230.out | refine below_set ?_ GE232.out) | exact HB.out)⟩⟩
              ·rw [if_neg c51] at H
               have c51b0 : ((xa0_1.length : Int) == 0) = false := beq_eq_false_iff_ne.mpr c51
               have c51b1 : ((xa0_1.length : Int) != 0) = true := bne_iff_ne.mpr c51
               have c51b2 : ¬ (xa0_1 = []) := fun h_ => c51 (by rw [h_]; rfl)
               have H' := Aside0.mk H
               clear H
               have hnb55 := NB232_225.out
               have hnc55 := NB225_232.out
               have hnb56 := NB232_230.out
               have hnc56 := NB230_232.out
               have hcz57_0 : wc.cell? ⟨gb232, 0, none⟩ = some (.int .i32 ((rd_T66 l0 x19_1).f0)) := (blk_cell BK232.out 0).trans rfl
               have hcz57_1 : wc.cell? ⟨gb232, 1, none⟩ = some (.int .i64 ((rd_T66 l0 x19_1).f1)) := (blk_cell BK232.out 1).trans rfl
               have hcz57_2 : wc.cell? ⟨gb232, 2, none⟩ = some (.int .i64 ((rd_T66 l0 x19_1).f2)) := (blk_cell BK232.out 2).trans rfl
               have hfz57_0 := blk_frozen BK232.out 0
               have hfz57_1 := blk_frozen BK232.out 1
               have hfz57_2 := blk_frozen BK232.out 2
               go_wp2
               go_meet
               case rel => exact ⟨_, ((x19_1 == (wrap64 ((l0.length : Int) - 1)))), (by first | rfl | (simp; done) | (simp [*]; done)), H', ⟨by have := HK1.out; have := HJ23.out; first | omega | exact Nat.le_refl _⟩, ⟨by (with_reducible repeat (first | apply Kd.R_alloc | apply Kd.R_drewN | apply Kd.R_drew)); exact HO_a0.out⟩, ⟨by (with_reducible repeat (first | apply Kd.R_alloc | apply Kd.R_drewN | apply Kd.R_drew)); exact HO_a1.out⟩, ⟨by (with_reducible repeat (first | refine blk_drewN ?_ _ | refine blk_drew ?_ | refine blk_alloc ?_ _)); exact BK225.out⟩, ⟨by (with_reducible repeat (first | refine blk_drewN ?_ _ | refine blk_drew ?_ | refine blk_alloc ?_ _)); exact BK230.out⟩, ⟨by (with_reducible repeat (first | refine blk_drewN ?_ _ | refine blk_drew ?_ | refine blk_alloc ?_ _)); exact BK232.out⟩, ⟨by repeat (first | (with_reducible first | exact HB.out | apply below_alloc | apply pw_below_drewN | apply below_drew1 | refine below_set ?_ GE225.out | refine below_set ?_ GE230.out | refine below_set ?_ GE232.out) | exact HB.out)⟩⟩
             ·replace c50 := Bool.eq_false_iff.mpr c50
              subst c50
              have H1 : (pats_one.j2 kj23 l0 false x7_1 (xa0_1.length : Int) l0 (l0.length : Int) x19_1 false xa0_1 xa1_1 ((rd_T66 l0 x19_1).f0) ((rd_T66 l0 x19_1).f1) ((rd_T66 l0 x19_1).f2)) = some (r1, r2, r3) := by rw [if_neg (show ¬ (false = true) by decide)] at H; exact H
              clear H
              have H := H1
              clear H1
              have H' := Aside0.mk H
              clear H
              have hnb58 := NB232_225.out
              have hnc58 := NB225_232.out
              have hnb59 := NB232_230.out
              have hnc59 := NB230_232.out
              have hcz60_0 : wc.cell? ⟨gb232, 0, none⟩ = some (.int .i32 ((rd_T66 l0 x19_1).f0)) := (blk_cell BK232.out 0).trans rfl
              have hcz60_1 : wc.cell? ⟨gb232, 1, none⟩ = some (.int .i64 ((rd_T66 l0 x19_1).f1)) := (blk_cell BK232.out 1).trans rfl
              have hcz60_2 : wc.cell? ⟨gb232, 2, none⟩ = some (.int .i64 ((rd_T66 l0 x19_1).f2)) := (blk_cell BK232.out 2).trans rfl
              have hfz60_0 := blk_frozen BK232.out 0
              have hfz60_1 := blk_frozen BK232.out 1
              have hfz60_2 := blk_frozen BK232.out 2
              go_wp2
              go_meet
              case rel => exact ⟨_, (false), (by first | rfl | (simp; done) | (simp [*]; done)), H', ⟨by have := HK1.out; have := HJ23.out; first | omega | exact Nat.le_refl _⟩, ⟨by (with_reducible repeat (first | apply Kd.R_alloc | apply Kd.R_drewN | apply Kd.R_drew)); exact HO_a0.out⟩, ⟨by (with_reducible repeat (first | apply Kd.R_alloc | apply Kd.R_drewN | apply Kd.R_drew)); exact HO_a1.out⟩, ⟨by (with_reducible repeat (first | refine blk_drewN ?_ _ | refine blk_drew ?_ | refine blk_alloc ?_ _)); exact BK225.out⟩, ⟨by (with_reducible repeat (first | refine blk_drewN ?_ _ | refine blk_drew ?_ | refine blk_alloc ?_ _)); exact BK230.out⟩, ⟨by (with_reducible repeat (first | refine blk_drewN ?_ _ | refine blk_drew ?_ | refine blk_alloc ?_ _)); exact BK232.out⟩, ⟨by repeat (first | (with_reducible first | exact HB.out | apply below_alloc | apply pw_below_drewN | apply below_drew1 | refine below_set ?_ GE225.out | refine below_set ?_ GE230.out | refine below_set ?_ GE232.out) | exact HB.out)⟩⟩
          case rest =>
           clear HC44
           try clear c1
           try clear c2
           try clear p2
           try clear q2
           try clear hx2
           try clear c3
           try clear c4
           try clear c5
           try clear p6
           try clear c9
           try clear c11
           try clear c11b0
           try clear c12
           try clear c12b0
           try clear c13
           try clear c13b0
           try clear c14
           try clear c14b0
           try clear c14b1
           try clear c16
           try clear c17
           try clear c19
           try clear p23
           try clear q23
           try clear hx23
           try clear c26
           try clear c27
           try clear c29
           try clear c32
           try clear c32b0
           try clear c32b1
           try clear c33
           try clear c34
           try clear c36
           try clear c36b0
           try clear c37
           try clear c38
           try clear c40
           try clear c41
           try clear c43
           try clear c45
           try clear c46
           try clear c46b0
           try clear c46b1
           try clear c46b2
           try clear c47
           try clear c48
           try clear c50
           try clear c51
           try clear c51b0
           try clear c51b1
           try clear c51b2
           try clear c52
           try clear c53
           try clear c55
           try clear c56
           try clear c58
           try clear c59
           try clear hcz10_0
           try clear hcz10_1
           try clear hcz18_0
           try clear hcz18_1
           try clear hcz18_2
           try clear hcz20_0
           try clear hcz20_1
           try clear hcz22_0
           try clear hcz22_1
           try clear hcz28_0
           try clear hcz28_1
           try clear hcz28_2
           try clear hcz30_0
           try clear hcz30_1
           try clear hcz35_0
           try clear hcz35_1
           try clear hcz35_2
           try clear hcz39_0
           try clear hcz39_1
           try clear hcz39_2
           try clear hcz42_0
           try clear hcz42_1
           try clear hcz42_2
           try clear hcz49_0
           try clear hcz49_1
           try clear hcz49_2
           try clear hcz54_0
           try clear hcz54_1
           try clear hcz54_2
           try clear hcz57_0
           try clear hcz57_1
           try clear hcz57_2
           try clear hcz60_0
           try clear hcz60_1
           try clear hcz60_2
           try clear hfz10_0
           try clear hfz10_1
           try clear hfz18_0
           try clear hfz18_1
           try clear hfz18_2
           try clear hfz20_0
           try clear hfz20_1
           try clear hfz22_0
           try clear hfz22_1
           try clear hfz28_0
           try clear hfz28_1
           try clear hfz28_2
           try clear hfz30_0
           try clear hfz30_1
           try clear hfz35_0
           try clear hfz35_1
           try clear hfz35_2
           try clear hfz39_0
           try clear hfz39_1
           try clear hfz39_2
           try clear hfz42_0
           try clear hfz42_1
           try clear hfz42_2
           try clear hfz49_0
           try clear hfz49_1
           try clear hfz49_2
           try clear hfz54_0
           try clear hfz54_1
           try clear hfz54_2
           try clear hfz57_0
           try clear hfz57_1
           try clear hfz57_2
           try clear hfz60_0
           try clear hfz60_1
           try clear hfz60_2
           try clear hx231_0
           try clear hx231_1
           try clear hx231_2
           try clear p2
           try clear p23
           try clear p231
           try clear q2
           try clear q23
           try clear q231
           obtain ⟨kq, x81_43, rfl, HA, HJ43, HO_a0, HO_a1, BK225, BK230, BK232, HB⟩ := hcut
           cases kq with
           | zero => exact absurd HA.out (by simp [pats_one.j2])
           | succ kj43 =>
            have H := HA.out
            clear HA
            simp only [pats_one.j2] at H
            by_cases c61 : x81_43 = true
            ·subst c61
             have H1 : (some (xa0_1, xa1_1, false)) = some (r1, r2, r3) := by rw [if_pos rfl] at H; exact H
             clear H
             have H := H1
             clear H1
             simp only [Option.some.injEq, Prod.mk.injEq] at H
             obtain ⟨rfl, rfl, rfl⟩ := H
             have hnb62 := NB230_225.out
             have hnc62 := NB225_230.out
             have hnb63 := NB230_232.out
             have hnc63 := NB232_230.out
             have hcz64_0 : wc.cell? ⟨gb230, 0, none⟩ = some (.slice Ao31 xa0_1.length co31) := (blk_cell BK230.out 0).trans rfl
             have hcz64_1 : wc.cell? ⟨gb230, 1, none⟩ = some (ua1) := (blk_cell BK230.out 1).trans rfl
             have hfz64_0 := blk_frozen BK230.out 0
             have hfz64_1 := blk_frozen BK230.out 1
             have hnb65 := NB225_232.out
             have hnc65 := NB232_225.out
             have hcz66_0 : wc.cell? ⟨gb225, 0, none⟩ = some (.slice none 0 0) := (blk_cell BK225.out 0).trans rfl
             have hcz66_1 : wc.cell? ⟨gb225, 1, none⟩ = some (.slice none 0 0) := (blk_cell BK225.out 1).trans rfl
             have hfz66_0 := blk_frozen BK225.out 0
             have hfz66_1 := blk_frozen BK225.out 1
             obtain ⟨Ao67, co67, eo67⟩ := Kd.R_slice HO_a1.out
             subst eo67
             go_wp2
             refine bodyPost_ret (results_ct rfl _ _ gb225 39 #[.slice Ao31 xa0_1.length co31, .slice Ao67 xa1_1.length co67] (0, 0) _ rfl (by (with_reducible repeat (first | refine blk_drewN ?_ _ | refine blk_drew ?_ | refine blk_alloc ?_ _)); refine blk_put (cs := #[.slice Ao31 xa0_1.length co31, .slice none 0 0]) ?_ 1 _ rfl; (with_reducible repeat (first | refine blk_drewN ?_ _ | refine blk_drew ?_ | refine blk_alloc ?_ _)); refine blk_put (cs := #[.slice none 0 0, .slice none 0 0]) ?_ 0 _ rfl; (with_reducible repeat (first | refine blk_drewN ?_ _ | refine blk_drew ?_ | refine blk_alloc ?_ _)); exact BK225.out) Try.underlying39 rfl (by kernel_rfl)) rfl ?_
             exact ⟨_, _, by first | rfl | (simp [errW_none, errW_some] <;> rfl) | (simp [*, errW_none, errW_some] <;> rfl), by (with_reducible repeat (first | apply Kd.R_alloc | apply Kd.R_drewN | apply Kd.R_drew)); exact Kd.R_mono (Kd.R_far (p := ⟨gb225, 1, none⟩) (Kd.R_far (p := ⟨gb225, 0, none⟩) (Kd.R_types HO_a0.out BK225.out (by decide)) (fun _ hk => hk.2) (.slice Ao31 xa0_1.length co31)) (fun _ hk => hk.2) (.slice Ao67 xa1_1.length co67)) (fun _ hk => trivial), by (with_reducible repeat (first | apply Kd.R_alloc | apply Kd.R_drewN | apply Kd.R_drew)); exact Kd.R_mono (Kd.R_far (p := ⟨gb225, 1, none⟩) (Kd.R_far (p := ⟨gb225, 0, none⟩) (Kd.R_types HO_a1.out BK225.out (by decide)) (fun _ hk => hk.2) (.slice Ao31 xa0_1.length co31)) (fun _ hk => hk.2) (.slice Ao67 xa1_1.length co67)) (fun _ hk => trivial), by repeat (first | (with_reducible first | exact HB.out | apply below_alloc | apply pw_below_drewN | apply below_drew1 | refine below_set ?_ GE225.out | refine below_set ?_ GE230.out | refine below_set ?_ GE232.out) | exact HB.out)⟩
            ·replace c61 := Bool.eq_false_iff.mpr c61
             subst c61
             have H1 : (if 0 ≤ (xa0_1.length : Int) then (if (xa0_1.length : Int) < (xa1_1.length : Int) then ((some (xa1_1.set ((xa0_1.length : Int) : Int).toNat 1 : List Int)).bind fun y233 => (if t226 = true then (pats_one.l0 kj43 l0 t226 true x7_1 l0 (l0.length : Int) (wrap64 (x19_1 + 1)) xa0_1 y233) else (pats_one.l0 kj43 l0 t226 true x7_1 l0 (l0.length : Int) (wrap64 (x19_1 + 1)) xa0_1 (y233.set ((xa0_1.length : Int) : Int).toNat ((wrap32 (((rd_T66 l0 x19_1).f0) - 48)) % 256))))) else (none)) else (none)) = some (r1, r2, r3) := by rw [if_neg (show ¬ (false = true) by decide)] at H; exact H
             clear H
             have H := H1
             clear H1
             by_cases c68 : 0 ≤ (xa0_1.length : Int)
             ·rw [if_pos c68] at H
              have c68b0 : decide (0 ≤ (xa0_1.length : Int)) = true := decide_eq_true c68
              have c68b1 : decide (0 ≤ xa0_1.length) = true := decide_eq_true (by omega)
              clear c68
              by_cases c69 : (xa0_1.length : Int) < (xa1_1.length : Int)
              ·rw [if_pos c69] at H
               have c69b0 : decide ((xa0_1.length : Int) < (xa1_1.length : Int)) = true := decide_eq_true c69
               have c69b1 : decide (xa0_1.length < xa1_1.length) = true := decide_eq_true (Int.ofNat_lt.mp c69)
               clear c69
               obtain ⟨y233, hy233⟩ : ∃ y_ : List Int, y_ = (xa1_1.set ((xa0_1.length : Int) : Int).toNat 1) := ⟨_, rfl⟩
               replace H : (if t226 = true then (pats_one.l0 kj43 l0 t226 true x7_1 l0 (l0.length : Int) (wrap64 (x19_1 + 1)) xa0_1 y233) else (pats_one.l0 kj43 l0 t226 true x7_1 l0 (l0.length : Int) (wrap64 (x19_1 + 1)) xa0_1 (y233.set ((xa0_1.length : Int) : Int).toNat ((wrap32 (((rd_T66 l0 x19_1).f0) - 48)) % 256)))) = some (r1, r2, r3) := by first | (rw [hy233]; with_reducible exact H) | (have H2_ := (Option.bind_some _ _).symm.trans H; rw [hy233]; with_reducible exact H2_) | (have H2_ := (Option.bind_some _ _).symm.trans H; with_reducible exact H2_) | with_reducible exact H | (rw [hy233]; exact H) | exact H
               have Ny233 := Aside0.mk hy233
               clear hy233
               by_cases c71 : t226 = true
               ·subst c71
                have H1 : (pats_one.l0 kj43 l0 true true x7_1 l0 (l0.length : Int) (wrap64 (x19_1 + 1)) xa0_1 y233) = some (r1, r2, r3) := by rw [if_pos rfl] at H; exact H
                clear H
                have H := H1
                clear H1
                have H' := Aside0.mk H
                clear H
                have hnb72 := NB230_225.out
                have hnc72 := NB225_230.out
                have hnb73 := NB230_232.out
                have hnc73 := NB232_230.out
                have hcz74_0 : wc.cell? ⟨gb230, 0, none⟩ = some (.slice Ao31 xa0_1.length co31) := (blk_cell BK230.out 0).trans rfl
                have hcz74_1 : wc.cell? ⟨gb230, 1, none⟩ = some (ua1) := (blk_cell BK230.out 1).trans rfl
                have hfz74_0 := blk_frozen BK230.out 0
                have hfz74_1 := blk_frozen BK230.out 1
                have p70 : 0 ≤ ((xa0_1.length : Int) : Int) := of_decide_eq_true (by first | (with_reducible assumption) | assumption)
                have q70 : ((xa0_1.length : Int) : Int) < ((xa1_1.length : Int) : Int) := of_decide_eq_true (by first | (with_reducible assumption) | assumption)
                obtain ⟨go70, co70, eo70, gb70, gl70, cl70, HG70⟩ := Kd.R_form HO_a1.out (by omega)
                (first | cases eo70 | (injection eo70 with ea_ en_ ec_; (first | subst ea_ | (injection ea_ with ea_; subst ea_)); subst ec_; clear en_))
                have GB70 := Aside0.mk gb70
                have GG70 := Aside0.mk HG70
                clear gb70 gl70 HG70
                obtain ⟨hx70_0, hf70_0⟩ := Kd.R_celln 0 HO_a1.out ((xa0_1.length : Int) : Int) p70 q70
                replace p70 := eq_true p70
                replace q70 := eq_true q70
                have HP75 := Kd.R_putg HO_a1.out ((xa0_1.length : Int) : Int) 1
                simp only [Int.toNat_natCast] at hx70_0 hf70_0 HP75 Ny233
                go_wp2_with (first | ((with_reducible refine gate_store (t := 5) (p := 86) rfl ?_); refine store_event (t := 5) (p := 86) (v := ?vo_w76) (w1 := (wc.setCell ⟨go70, xa0_1.length, none⟩ (.int .u8 1))) ?hg ?ho ?hn ?hr ?_; (case ho => rfl); (case hg => rfl); (case hn => rfl); (case hr => first | (go_simp; done) | (go_simp; rfl)); intro w76 hw; have hg : wc.grownBy w76 (some go70) := (by rw [hw]; exact HP75.2); have hp_ : Kd.R (Kd.int .u8) 5 w76 w.heap.size (fun _ => True) (.slice (some ⟨go70, 0, none⟩) xa1_1.length co70) y233 := (by rw [hw, Ny233.out]; exact HP75.1); clear HP75; have n0_ := Aside0.mk (Kd.R_over' (v := (.slice (some ⟨go70, 0, none⟩) xa1_1.length co70)) (by (with_reducible repeat (first | apply Kd.R_alloc | apply Kd.R_drewN | apply Kd.R_drew)); exact HO_a0.out) (Kd.R_typed HO_a1.out) (by decide) hg); have n1_ := Aside0.mk (hp_); have n2_ := Aside0.mk (blk_grown (g := gb225) (o := .cells #[.slice none 0 0, .slice none 0 0] 39 (0, 0)) (by (with_reducible repeat (first | refine blk_drewN ?_ _ | refine blk_drew ?_ | refine blk_alloc ?_ _)); exact BK225.out) hg (Kd.R_ne HO_a1.out BK225.out (by decide))); have n3_ := Aside0.mk (blk_grown (g := gb230) (o := .cells #[.slice Ao31 xa0_1.length co31, .slice (some ⟨go70, 0, none⟩) xa1_1.length co70] 39 (0, 0)) (by (with_reducible repeat (first | refine blk_drewN ?_ _ | refine blk_drew ?_ | refine blk_alloc ?_ _)); exact BK230.out) hg (Kd.R_ne HO_a1.out BK230.out (by decide))); have n4_ := Aside0.mk (blk_grown (g := gb232) (o := .cells #[.int .i32 ((rd_T66 l0 x19_1).f0), .int .i64 ((rd_T66 l0 x19_1).f1), .int .i64 ((rd_T66 l0 x19_1).f2)] 66 (0, 0)) (by (with_reducible repeat (first | refine blk_drewN ?_ _ | refine blk_drew ?_ | refine blk_alloc ?_ _)); exact BK232.out) hg (Kd.R_ne HO_a1.out BK232.out (by decide))); have n5_ := Aside0.mk ((by rw [hw]; exact below_set (HB.out) GB70.out : Below w.heap.size w w76)); clear HO_a0; clear HO_a1; clear BK225; clear BK230; clear BK232; clear HB; have HO_a0 := n0_; have HO_a1 := n1_; have BK225 := n2_; have BK230 := n3_; have BK232 := n4_; have HB := n5_; clear n0_ n1_ n2_ n3_ n4_ n5_; clear hg hw hp_))
                go_roundg kj43
                case measure => have := HK1.out; have := HJ23.out; have := HJ43.out; omega
                case rel => exact ⟨(true), (x7_1), (wrap64 (x19_1 + 1)), (xa0_1), (y233), (.slice Ao31 xa0_1.length co31), (.slice (some ⟨go70, 0, none⟩) xa1_1.length co70), (by first | rfl | (simp; done) | (simp [*]; done)), (by first | rfl | (simp; done) | (simp [*]; done)), (by first | rfl | (simp; done) | (simp [*]; done)), H', ⟨by have := HK1.out; have := HJ23.out; have := HJ43.out; omega⟩, ⟨by (with_reducible repeat (first | apply Kd.R_alloc | apply Kd.R_drewN | apply Kd.R_drew)); exact HO_a0.out⟩, ⟨by (with_reducible repeat (first | apply Kd.R_alloc | apply Kd.R_drewN | apply Kd.R_drew)); exact HO_a1.out⟩, ⟨by (with_reducible repeat (first | refine blk_drewN ?_ _ | refine blk_drew ?_ | refine blk_alloc ?_ _)); exact BK225.out⟩, ⟨by (with_reducible repeat (first | refine blk_drewN ?_ _ | refine blk_drew ?_ | refine blk_alloc ?_ _)); exact BK230.out⟩, ⟨by repeat (first | (with_reducible first | exact HB.out | apply below_alloc | apply pw_below_drewN | apply below_drew1 | refine below_set ?_ GE225.out | refine below_set ?_ GE230.out | refine below_set ?_ GE232.out) | exact HB.out)⟩⟩
               ·replace c71 := Bool.eq_false_iff.mpr c71
                subst c71
                have H1 : (pats_one.l0 kj43 l0 false true x7_1 l0 (l0.length : Int) (wrap64 (x19_1 + 1)) xa0_1 (y233.set ((xa0_1.length : Int) : Int).toNat ((wrap32 (((rd_T66 l0 x19_1).f0) - 48)) % 256))) = some (r1, r2, r3) := by rw [if_neg (show ¬ (false = true) by decide)] at H; exact H
                clear H
                have H := H1
                clear H1
                obtain ⟨y234, hy234⟩ : ∃ y_ : List Int, y_ = (y233.set ((xa0_1.length : Int) : Int).toNat ((wrap32 (((rd_T66 l0 x19_1).f0) - 48)) % 256)) := ⟨_, rfl⟩
                replace H : (pats_one.l0 kj43 l0 false true x7_1 l0 (l0.length : Int) (wrap64 (x19_1 + 1)) xa0_1 y234) = some (r1, r2, r3) := by first | (rw [hy234]; with_reducible exact H) | (have H2_ := (Option.bind_some _ _).symm.trans H; rw [hy234]; with_reducible exact H2_) | (have H2_ := (Option.bind_some _ _).symm.trans H; with_reducible exact H2_) | with_reducible exact H | (rw [hy234]; exact H) | exact H
                have Ny234 := Aside0.mk hy234
                clear hy234
                have H' := Aside0.mk H
                clear H
                have hnb78 := NB230_225.out
                have hnc78 := NB225_230.out
                have hnb79 := NB230_232.out
                have hnc79 := NB232_230.out
                have hcz80_0 : wc.cell? ⟨gb230, 0, none⟩ = some (.slice Ao31 xa0_1.length co31) := (blk_cell BK230.out 0).trans rfl
                have hcz80_1 : wc.cell? ⟨gb230, 1, none⟩ = some (ua1) := (blk_cell BK230.out 1).trans rfl
                have hfz80_0 := blk_frozen BK230.out 0
                have hfz80_1 := blk_frozen BK230.out 1
                have p70 : 0 ≤ ((xa0_1.length : Int) : Int) := of_decide_eq_true (by first | (with_reducible assumption) | assumption)
                have q70 : ((xa0_1.length : Int) : Int) < ((xa1_1.length : Int) : Int) := of_decide_eq_true (by first | (with_reducible assumption) | assumption)
                obtain ⟨go70, co70, eo70, gb70, gl70, cl70, HG70⟩ := Kd.R_form HO_a1.out (by omega)
                (first | cases eo70 | (injection eo70 with ea_ en_ ec_; (first | subst ea_ | (injection ea_ with ea_; subst ea_)); subst ec_; clear en_))
                have GB70 := Aside0.mk gb70
                have GG70 := Aside0.mk HG70
                clear gb70 gl70 HG70
                obtain ⟨hx70_0, hf70_0⟩ := Kd.R_celln 0 HO_a1.out ((xa0_1.length : Int) : Int) p70 q70
                replace p70 := eq_true p70
                replace q70 := eq_true q70
                have HP81 := Kd.R_putg HO_a1.out ((xa0_1.length : Int) : Int) 1
                simp only [Int.toNat_natCast] at hx70_0 hf70_0 HP81 Ny234
                go_wp2_with (first | ((with_reducible refine gate_store (t := 5) (p := 86) rfl ?_); refine store_event (t := 5) (p := 86) (v := ?vo_w82) (w1 := (wc.setCell ⟨go70, xa0_1.length, none⟩ (.int .u8 1))) ?hg ?ho ?hn ?hr ?_; (case ho => rfl); (case hg => rfl); (case hn => rfl); (case hr => first | (go_simp; done) | (go_simp; rfl)); intro w82 hw; have hg : wc.grownBy w82 (some go70) := (by rw [hw]; exact HP81.2); have hp_ : Kd.R (Kd.int .u8) 5 w82 w.heap.size (fun _ => True) (.slice (some ⟨go70, 0, none⟩) xa1_1.length co70) y233 := (by rw [hw, Ny233.out]; exact HP81.1); clear HP81; have n0_ := Aside0.mk (Kd.R_over' (v := (.slice (some ⟨go70, 0, none⟩) xa1_1.length co70)) (by (with_reducible repeat (first | apply Kd.R_alloc | apply Kd.R_drewN | apply Kd.R_drew)); exact HO_a0.out) (Kd.R_typed HO_a1.out) (by decide) hg); have n1_ := Aside0.mk (hp_); have n2_ := Aside0.mk (blk_grown (g := gb225) (o := .cells #[.slice none 0 0, .slice none 0 0] 39 (0, 0)) (by (with_reducible repeat (first | refine blk_drewN ?_ _ | refine blk_drew ?_ | refine blk_alloc ?_ _)); exact BK225.out) hg (Kd.R_ne HO_a1.out BK225.out (by decide))); have n3_ := Aside0.mk (blk_grown (g := gb230) (o := .cells #[.slice Ao31 xa0_1.length co31, .slice (some ⟨go70, 0, none⟩) xa1_1.length co70] 39 (0, 0)) (by (with_reducible repeat (first | refine blk_drewN ?_ _ | refine blk_drew ?_ | refine blk_alloc ?_ _)); exact BK230.out) hg (Kd.R_ne HO_a1.out BK230.out (by decide))); have n4_ := Aside0.mk (blk_grown (g := gb232) (o := .cells #[.int .i32 ((rd_T66 l0 x19_1).f0), .int .i64 ((rd_T66 l0 x19_1).f1), .int .i64 ((rd_T66 l0 x19_1).f2)] 66 (0, 0)) (by (with_reducible repeat (first | refine blk_drewN ?_ _ | refine blk_drew ?_ | refine blk_alloc ?_ _)); exact BK232.out) hg (Kd.R_ne HO_a1.out BK232.out (by decide))); have n5_ := Aside0.mk ((by rw [hw]; exact below_set (HB.out) GB70.out : Below w.heap.size w w82)); clear HO_a0; clear HO_a1; clear BK225; clear BK230; clear BK232; clear HB; have HO_a0 := n0_; have HO_a1 := n1_; have BK225 := n2_; have BK230 := n3_; have BK232 := n4_; have HB := n5_; clear n0_ n1_ n2_ n3_ n4_ n5_; clear hg hw hp_; have hcz83_0 : w82.cell? ⟨gb230, 0, none⟩ = some (.slice Ao31 xa0_1.length co31) := (blk_cell BK230.out 0).trans rfl; have hcz83_1 : w82.cell? ⟨gb230, 1, none⟩ = some (.slice (some ⟨go70, 0, none⟩) xa1_1.length co70) := (blk_cell BK230.out 1).trans rfl; have hfz83_0 := blk_frozen BK230.out 0; have hfz83_1 := blk_frozen BK230.out 1; have hnb84 := NB232_225.out; have hnc84 := NB225_232.out; have hcz85_0 : w82.cell? ⟨gb232, 0, none⟩ = some (.int .i32 ((rd_T66 l0 x19_1).f0)) := (blk_cell BK232.out 0).trans rfl; have hcz85_1 : w82.cell? ⟨gb232, 1, none⟩ = some (.int .i64 ((rd_T66 l0 x19_1).f1)) := (blk_cell BK232.out 1).trans rfl; have hcz85_2 : w82.cell? ⟨gb232, 2, none⟩ = some (.int .i64 ((rd_T66 l0 x19_1).f2)) := (blk_cell BK232.out 2).trans rfl; have hfz85_0 := blk_frozen BK232.out 0; have hfz85_1 := blk_frozen BK232.out 1; have hfz85_2 := blk_frozen BK232.out 2; have p77 : 0 ≤ ((xa0_1.length : Int) : Int) := of_decide_eq_true (by first | (with_reducible assumption) | assumption); have q77 : ((xa0_1.length : Int) : Int) < ((xa1_1.length : Int) : Int) := of_decide_eq_true (by first | (with_reducible assumption) | assumption); obtain ⟨hx77_0, hf77_0⟩ := Kd.R_celln 0 HO_a1.out ((xa0_1.length : Int) : Int) p77 q77; replace p77 := eq_true p77; replace q77 := eq_true q77; obtain ⟨hy86_, hz86_⟩ := Kd.R_celln 0 HO_a1.out ((xa0_1.length : Int) : Int) (of_decide_eq_true (by first | (with_reducible assumption) | assumption)) (of_decide_eq_true (by first | (with_reducible assumption) | assumption)); (try simp only [Go.IntWalk.toNatUp] at hy86_ hz86_); have HP86 := Kd.R_putg HO_a1.out ((xa0_1.length : Int) : Int) ((wrap32 (((rd_T66 l0 x19_1).f0) - 48)) % 256)) | ((with_reducible refine gate_store (t := 5) (p := 96) rfl ?_); refine store_event (t := 5) (p := 96) (v := ?vo_w87) (w1 := (w82.setCell ⟨go70, xa0_1.length, none⟩ (.int .u8 ((wrap32 (((rd_T66 l0 x19_1).f0) - 48)) % 256)))) ?hg ?ho ?hn ?hr ?_; (case ho => rfl); (case hg => rfl); (case hn => rfl); (case hr => first | (go_simp; done) | (go_simp; rfl)); intro w87 hw; have hg : w82.grownBy w87 (some go70) := (by rw [hw]; exact HP86.2); have hp_ : Kd.R (Kd.int .u8) 5 w87 w.heap.size (fun _ => True) (.slice (some ⟨go70, 0, none⟩) xa1_1.length co70) y234 := (by rw [hw, Ny234.out]; exact HP86.1); clear HP86; have n0_ := Aside0.mk (Kd.R_over' (v := (.slice (some ⟨go70, 0, none⟩) xa1_1.length co70)) (by (with_reducible repeat (first | apply Kd.R_alloc | apply Kd.R_drewN | apply Kd.R_drew)); exact HO_a0.out) (Kd.R_typed HO_a1.out) (by decide) hg); have n1_ := Aside0.mk (hp_); have n2_ := Aside0.mk (blk_grown (g := gb225) (o := .cells #[.slice none 0 0, .slice none 0 0] 39 (0, 0)) (by (with_reducible repeat (first | refine blk_drewN ?_ _ | refine blk_drew ?_ | refine blk_alloc ?_ _)); exact BK225.out) hg (Kd.R_ne HO_a1.out BK225.out (by decide))); have n3_ := Aside0.mk (blk_grown (g := gb230) (o := .cells #[.slice Ao31 xa0_1.length co31, .slice (some ⟨go70, 0, none⟩) xa1_1.length co70] 39 (0, 0)) (by (with_reducible repeat (first | refine blk_drewN ?_ _ | refine blk_drew ?_ | refine blk_alloc ?_ _)); exact BK230.out) hg (Kd.R_ne HO_a1.out BK230.out (by decide))); have n4_ := Aside0.mk (blk_grown (g := gb232) (o := .cells #[.int .i32 ((rd_T66 l0 x19_1).f0), .int .i64 ((rd_T66 l0 x19_1).f1), .int .i64 ((rd_T66 l0 x19_1).f2)] 66 (0, 0)) (by (with_reducible repeat (first | refine blk_drewN ?_ _ | refine blk_drew ?_ | refine blk_alloc ?_ _)); exact BK232.out) hg (Kd.R_ne HO_a1.out BK232.out (by decide))); have n5_ := Aside0.mk ((by rw [hw]; exact below_set (HB.out) GB70.out : Below w.heap.size w w87)); clear HO_a0; clear HO_a1; clear BK225; clear BK230; clear BK232; clear HB; have HO_a0 := n0_; have HO_a1 := n1_; have BK225 := n2_; have BK230 := n3_; have BK232 := n4_; have HB := n5_; clear n0_ n1_ n2_ n3_ n4_ n5_; clear hg hw hp_))
                go_roundg kj43
                case measure => have := HK1.out; have := HJ23.out; have := HJ43.out; omega
                case rel => exact ⟨(true), (x7_1), (wrap64 (x19_1 + 1)), (xa0_1), (y234), (.slice Ao31 xa0_1.length co31), (.slice (some ⟨go70, 0, none⟩) xa1_1.length co70), (by first | rfl | (simp; done) | (simp [*]; done)), (by first | rfl | (simp; done) | (simp [*]; done)), (by first | rfl | (simp; done) | (simp [*]; done)), H', ⟨by have := HK1.out; have := HJ23.out; have := HJ43.out; omega⟩, ⟨by (with_reducible repeat (first | apply Kd.R_alloc | apply Kd.R_drewN | apply Kd.R_drew)); exact HO_a0.out⟩, ⟨by (with_reducible repeat (first | apply Kd.R_alloc | apply Kd.R_drewN | apply Kd.R_drew)); exact HO_a1.out⟩, ⟨by (with_reducible repeat (first | refine blk_drewN ?_ _ | refine blk_drew ?_ | refine blk_alloc ?_ _)); exact BK225.out⟩, ⟨by (with_reducible repeat (first | refine blk_drewN ?_ _ | refine blk_drew ?_ | refine blk_alloc ?_ _)); exact BK230.out⟩, ⟨by repeat (first | (with_reducible first | exact HB.out | apply below_alloc | apply pw_below_drewN | apply below_drew1 | refine below_set ?_ GE225.out | refine below_set ?_ GE230.out | refine below_set ?_ GE232.out) | exact HB.out)⟩⟩
              ·rw [if_neg c69] at H
               exact absurd H (by simp)
             ·rw [if_neg c68] at H
              exact absurd H (by simp)
         ·replace c43 := Bool.eq_false_iff.mpr c43
          subst c43
          have H1 : (if ((rd_T66 l0 x19_1).f0) = 46 then (if t226 = true then (some (xa0_1, xa1_1, false)) else (if x19_1 = 0 then ((some (([46] : List Int) : List Int)).bind fun y235 => (if xa0_1.length + y235.length < 35184372088832 then ((some (([0] : List Int) : List Int)).bind fun y241 => (if xa1_1.length + y241.length < 140737488355328 then (pats_one.l0 kj23 l0 t226 false x7_1 l0 (l0.length : Int) (wrap64 (x19_1 + 1)) (xa0_1 ++ y235) (xa1_1 ++ y241)) else (none))) else (none))) else (if (x19_1 = (wrap64 ((l0.length : Int) - 1))) then ((some (([46] : List Int) : List Int)).bind fun y247 => (if xa0_1.length + y247.length < 35184372088832 then ((some (([0] : List Int) : List Int)).bind fun y253 => (if xa1_1.length + y253.length < 140737488355328 then (pats_one.l0 kj23 l0 t226 false x7_1 l0 (l0.length : Int) (wrap64 (x19_1 + 1)) (xa0_1 ++ y247) (xa1_1 ++ y253)) else (none))) else (none))) else (some (xa0_1, xa1_1, false))))) else ((some (([((rd_T66 l0 x19_1).f0)] : List Int) : List Int)).bind fun y259 => (if xa0_1.length + y259.length < 35184372088832 then ((some (([0] : List Int) : List Int)).bind fun y265 => (if xa1_1.length + y265.length < 140737488355328 then (pats_one.l0 kj23 l0 t226 false (wrap64 (x7_1 + 1)) l0 (l0.length : Int) (wrap64 (x19_1 + 1)) (xa0_1 ++ y259) (xa1_1 ++ y265)) else (none))) else (none)))) = some (r1, r2, r3) := by rw [if_neg (show ¬ (false = true) by decide)] at H; exact H
          clear H
          have H := H1
          clear H1
          by_cases c88 : ((rd_T66 l0 x19_1).f0) = 46
          ·rw [if_pos c88] at H
           have c88b0 : (((rd_T66 l0 x19_1).f0) == 46) = true := beq_iff_eq.mpr c88
           have c88b1 : (((rd_T66 l0 x19_1).f0) != 46) = false := bne_eq_false_iff_eq.mpr c88
           clear c88
           by_cases c89 : t226 = true
           ·subst c89
            have H1 : (some (xa0_1, xa1_1, false)) = some (r1, r2, r3) := by rw [if_pos rfl] at H; exact H
            clear H
            have H := H1
            clear H1
            simp only [Option.some.injEq, Prod.mk.injEq] at H
            obtain ⟨rfl, rfl, rfl⟩ := H
            have hnb90 := NB232_225.out
            have hnc90 := NB225_232.out
            have hnb91 := NB232_230.out
            have hnc91 := NB230_232.out
            have hcz92_0 : wc.cell? ⟨gb232, 0, none⟩ = some (.int .i32 ((rd_T66 l0 x19_1).f0)) := (blk_cell BK232.out 0).trans rfl
            have hcz92_1 : wc.cell? ⟨gb232, 1, none⟩ = some (.int .i64 ((rd_T66 l0 x19_1).f1)) := (blk_cell BK232.out 1).trans rfl
            have hcz92_2 : wc.cell? ⟨gb232, 2, none⟩ = some (.int .i64 ((rd_T66 l0 x19_1).f2)) := (blk_cell BK232.out 2).trans rfl
            have hfz92_0 := blk_frozen BK232.out 0
            have hfz92_1 := blk_frozen BK232.out 1
            have hfz92_2 := blk_frozen BK232.out 2
            have hnb93 := NB230_225.out
            have hnc93 := NB225_230.out
            have hcz94_0 : wc.cell? ⟨gb230, 0, none⟩ = some (.slice Ao31 xa0_1.length co31) := (blk_cell BK230.out 0).trans rfl
            have hcz94_1 : wc.cell? ⟨gb230, 1, none⟩ = some (ua1) := (blk_cell BK230.out 1).trans rfl
            have hfz94_0 := blk_frozen BK230.out 0
            have hfz94_1 := blk_frozen BK230.out 1
            have hcz95_0 : wc.cell? ⟨gb225, 0, none⟩ = some (.slice none 0 0) := (blk_cell BK225.out 0).trans rfl
            have hcz95_1 : wc.cell? ⟨gb225, 1, none⟩ = some (.slice none 0 0) := (blk_cell BK225.out 1).trans rfl
            have hfz95_0 := blk_frozen BK225.out 0
            have hfz95_1 := blk_frozen BK225.out 1
            obtain ⟨Ao96, co96, eo96⟩ := Kd.R_slice HO_a1.out
            subst eo96
            go_wp2
            refine bodyPost_ret (results_ct rfl _ _ gb225 39 #[.slice Ao31 xa0_1.length co31, .slice Ao96 xa1_1.length co96] (0, 0) _ rfl (by (with_reducible repeat (first | refine blk_drewN ?_ _ | refine blk_drew ?_ | refine blk_alloc ?_ _)); refine blk_put (cs := #[.slice Ao31 xa0_1.length co31, .slice none 0 0]) ?_ 1 _ rfl; (with_reducible repeat (first | refine blk_drewN ?_ _ | refine blk_drew ?_ | refine blk_alloc ?_ _)); refine blk_put (cs := #[.slice none 0 0, .slice none 0 0]) ?_ 0 _ rfl; (with_reducible repeat (first | refine blk_drewN ?_ _ | refine blk_drew ?_ | refine blk_alloc ?_ _)); exact BK225.out) Try.underlying39 rfl (by kernel_rfl)) rfl ?_
            exact ⟨_, _, by first | rfl | (simp [errW_none, errW_some] <;> rfl) | (simp [*, errW_none, errW_some] <;> rfl), by (with_reducible repeat (first | apply Kd.R_alloc | apply Kd.R_drewN | apply Kd.R_drew)); exact Kd.R_mono (Kd.R_far (p := ⟨gb225, 1, none⟩) (Kd.R_far (p := ⟨gb225, 0, none⟩) (Kd.R_types HO_a0.out BK225.out (by decide)) (fun _ hk => hk.2) (.slice Ao31 xa0_1.length co31)) (fun _ hk => hk.2) (.slice Ao96 xa1_1.length co96)) (fun _ hk => trivial), by (with_reducible repeat (first | apply Kd.R_alloc | apply Kd.R_drewN | apply Kd.R_drew)); exact Kd.R_mono (Kd.R_far (p := ⟨gb225, 1, none⟩) (Kd.R_far (p := ⟨gb225, 0, none⟩) (Kd.R_types HO_a1.out BK225.out (by decide)) (fun _ hk => hk.2) (.slice Ao31 xa0_1.length co31)) (fun _ hk => hk.2) (.slice Ao96 xa1_1.length co96)) (fun _ hk => trivial), by repeat (first | (with_reducible first | exact HB.out | apply below_alloc | apply pw_below_drewN | apply below_drew1 | refine below_set ?_ GE225.out | refine below_set ?_ GE230.out | refine below_set ?_ GE232.out) | exact HB.out)⟩
           ·replace c89 := Bool.eq_false_iff.mpr c89
            subst c89
            have H1 : (if x19_1 = 0 then ((some (([46] : List Int) : List Int)).bind fun y235 => (if xa0_1.length + y235.length < 35184372088832 then ((some (([0] : List Int) : List Int)).bind fun y241 => (if xa1_1.length + y241.length < 140737488355328 then (pats_one.l0 kj23 l0 false false x7_1 l0 (l0.length : Int) (wrap64 (x19_1 + 1)) (xa0_1 ++ y235) (xa1_1 ++ y241)) else (none))) else (none))) else (if (x19_1 = (wrap64 ((l0.length : Int) - 1))) then ((some (([46] : List Int) : List Int)).bind fun y247 => (if xa0_1.length + y247.length < 35184372088832 then ((some (([0] : List Int) : List Int)).bind fun y253 => (if xa1_1.length + y253.length < 140737488355328 then (pats_one.l0 kj23 l0 false false x7_1 l0 (l0.length : Int) (wrap64 (x19_1 + 1)) (xa0_1 ++ y247) (xa1_1 ++ y253)) else (none))) else (none))) else (some (xa0_1, xa1_1, false)))) = some (r1, r2, r3) := by rw [if_neg (show ¬ (false = true) by decide)] at H; exact H
            clear H
            have H := H1
            clear H1
            by_cases c97 : x19_1 = 0
            ·rw [if_pos c97] at H
             have c97b0 : (x19_1 == 0) = true := beq_iff_eq.mpr c97
             have c97b1 : (x19_1 != 0) = false := bne_eq_false_iff_eq.mpr c97
             clear c97
             obtain ⟨y235, hy235⟩ : ∃ y_ : List Int, y_ = (([46] : List Int)) := ⟨_, rfl⟩
             replace H : (if xa0_1.length + y235.length < 35184372088832 then ((some (([0] : List Int) : List Int)).bind fun y241 => (if xa1_1.length + y241.length < 140737488355328 then (pats_one.l0 kj23 l0 false false x7_1 l0 (l0.length : Int) (wrap64 (x19_1 + 1)) (xa0_1 ++ y235) (xa1_1 ++ y241)) else (none))) else (none)) = some (r1, r2, r3) := by first | (rw [hy235]; with_reducible exact H) | (have H2_ := (Option.bind_some _ _).symm.trans H; rw [hy235]; with_reducible exact H2_) | (have H2_ := (Option.bind_some _ _).symm.trans H; with_reducible exact H2_) | with_reducible exact H | (rw [hy235]; exact H) | exact H
             have Ny235 := Aside0.mk hy235
             clear hy235
             by_cases c98 : xa0_1.length + y235.length < 35184372088832
             ·rw [if_pos c98] at H
              have LMc98 := Aside0.mk c98
              clear c98
              obtain ⟨y238, hy238⟩ : ∃ y_ : List Int, y_ = (xa0_1 ++ y235) := ⟨_, rfl⟩
              replace H : ((some (([0] : List Int) : List Int)).bind fun y241 => (if xa1_1.length + y241.length < 140737488355328 then (pats_one.l0 kj23 l0 false false x7_1 l0 (l0.length : Int) (wrap64 (x19_1 + 1)) y238 (xa1_1 ++ y241)) else (none))) = some (r1, r2, r3) := by first | (rw [hy238]; with_reducible exact H) | (have H2_ := (Option.bind_some _ _).symm.trans H; rw [hy238]; with_reducible exact H2_) | (have H2_ := (Option.bind_some _ _).symm.trans H; with_reducible exact H2_) | with_reducible exact H | (rw [hy238]; exact H) | exact H
              have Ny238 := Aside0.mk hy238
              clear hy238
              obtain ⟨y241, hy241⟩ : ∃ y_ : List Int, y_ = (([0] : List Int)) := ⟨_, rfl⟩
              replace H : (if xa1_1.length + y241.length < 140737488355328 then (pats_one.l0 kj23 l0 false false x7_1 l0 (l0.length : Int) (wrap64 (x19_1 + 1)) y238 (xa1_1 ++ y241)) else (none)) = some (r1, r2, r3) := by first | (rw [hy241]; with_reducible exact H) | (have H2_ := (Option.bind_some _ _).symm.trans H; rw [hy241]; with_reducible exact H2_) | (have H2_ := (Option.bind_some _ _).symm.trans H; with_reducible exact H2_) | with_reducible exact H | (rw [hy241]; exact H) | exact H
              have Ny241 := Aside0.mk hy241
              clear hy241
              by_cases c99 : xa1_1.length + y241.length < 140737488355328
              ·rw [if_pos c99] at H
               have LMc99 := Aside0.mk c99
               clear c99
               obtain ⟨y244, hy244⟩ : ∃ y_ : List Int, y_ = (xa1_1 ++ y241) := ⟨_, rfl⟩
               replace H : (pats_one.l0 kj23 l0 false false x7_1 l0 (l0.length : Int) (wrap64 (x19_1 + 1)) y238 y244) = some (r1, r2, r3) := by first | (rw [hy244]; with_reducible exact H) | (have H2_ := (Option.bind_some _ _).symm.trans H; rw [hy244]; with_reducible exact H2_) | (have H2_ := (Option.bind_some _ _).symm.trans H; with_reducible exact H2_) | with_reducible exact H | (rw [hy244]; exact H) | exact H
               have Ny244 := Aside0.mk hy244
               clear hy244
               have H' := Aside0.mk H
               clear H
               have hnb100 := NB232_225.out
               have hnc100 := NB225_232.out
               have hnb101 := NB232_230.out
               have hnc101 := NB230_232.out
               have hcz102_0 : wc.cell? ⟨gb232, 0, none⟩ = some (.int .i32 ((rd_T66 l0 x19_1).f0)) := (blk_cell BK232.out 0).trans rfl
               have hcz102_1 : wc.cell? ⟨gb232, 1, none⟩ = some (.int .i64 ((rd_T66 l0 x19_1).f1)) := (blk_cell BK232.out 1).trans rfl
               have hcz102_2 : wc.cell? ⟨gb232, 2, none⟩ = some (.int .i64 ((rd_T66 l0 x19_1).f2)) := (blk_cell BK232.out 2).trans rfl
               have hfz102_0 := blk_frozen BK232.out 0
               have hfz102_1 := blk_frozen BK232.out 1
               have hfz102_2 := blk_frozen BK232.out 2
               obtain ⟨Ao103, co103, eo103⟩ := Kd.R_slice HO_a1.out
               subst eo103
               try go_wp2
               have n0_ := Aside0.mk (Kd.R_drew HO_a0.out)
               have n1_ := Aside0.mk (Kd.R_drew HO_a1.out)
               have n2_ := Aside0.mk (blk_drew BK225.out)
               have n3_ := Aside0.mk (blk_drew BK230.out)
               have n4_ := Aside0.mk (blk_drew BK232.out)
               have n5_ := Aside0.mk (below_drew1 HB.out)
               clear HO_a0
               clear HO_a1
               clear BK225
               clear BK230
               clear BK232
               clear HB
               have HO_a0 := n0_
               have HO_a1 := n1_
               have BK225 := n2_
               have BK230 := n3_
               have BK232 := n4_
               have HB := n5_
               clear n0_ n1_ n2_ n3_ n4_ n5_
               refine start_ (n := 13) (S := fun w' => w'.cell? ⟨gb230, 0, none⟩ = some (.slice Ao31 xa0_1.length co31) ∧ w'.cell? ⟨gb230, 1, none⟩ = some (.slice Ao103 xa1_1.length co103)) (ds := [9, 11]) #[false, false, false, false, false, false, false, false, false, false, false, false, false] (by kernel_rfl) rfl rfl ⟨(blk_cell BK230.out 0).trans rfl, (blk_cell BK230.out 1).trans rfl⟩ (fun hHeld => ?_); refine with_tabW pats_one.tab24 pats_one.bits24 (fun HT_ HW_ => ?_)
               generalize wc.drew = w104 at HO_a0 HO_a1 BK225 BK230 BK232 HB hHeld ⊢
               refine pure_ (i := 0) (N := some 118) (v := ?_) (a' := ?_) #[true, false, false, false, false, false, false, false, false, false, false, false, false] rfl rfl (any_of HT_.out (by kernel_rfl)) (fun _ _ _ h => h) (Or.inl ⟨by rfl, ?_⟩) ?_ ?_
               rotate_left
               ·intro w'
                go_simp
                with_reducible rfl
               rotate_left
               ·simp only [Act.put, List.setIfInBounds_toArray, List.set_cons_zero, List.set_cons_succ, i64_w, i32_w]
                rfl
               refine pure_ (i := 4) (N := some 122) (v := ?_) (a' := ?_) #[true, false, false, false, true, false, false, false, false, false, false, false, false] rfl rfl (any_of HT_.out (by kernel_rfl)) (fun _ _ _ h => h) (Or.inl ⟨by rfl, ?_⟩) ?_ ?_
               rotate_left
               ·intro w'
                go_simp
                with_reducible rfl
               rotate_left
               ·simp only [Act.put, List.setIfInBounds_toArray, List.set_cons_zero, List.set_cons_succ, i64_w, i32_w]
                rfl
               refine take_ (i := 1) (N := some 119) (v := ?_) (a' := ?_) #[true, true, false, false, true, false, false, false, false, false, false, false, false] rfl rfl (take_ofW HT_.out HW_.out (by kernel_rfl)) (fun _ _ _ h => h) (Or.inl ⟨by rfl, ?_⟩) hHeld ?_ ?_
               rotate_left
               ·rintro w' ⟨s0, s1⟩
                go_simp
                with_reducible rfl
               rotate_left
               ·simp only [Act.put, List.setIfInBounds_toArray, List.set_cons_zero, List.set_cons_succ, i64_w, i32_w]
                rfl
               refine take_ (i := 5) (N := some 123) (v := ?_) (a' := ?_) #[true, true, false, false, true, true, false, false, false, false, false, false, false] rfl rfl (take_ofW HT_.out HW_.out (by kernel_rfl)) (fun _ _ _ h => h) (Or.inl ⟨by rfl, ?_⟩) hHeld ?_ ?_
               rotate_left
               ·rintro w' ⟨s0, s1⟩
                go_simp
                with_reducible rfl
               rotate_left
               ·simp only [Act.put, List.setIfInBounds_toArray, List.set_cons_zero, List.set_cons_succ, i64_w, i32_w]
                rfl
               refine join_ (σ := Value × Value × Value) 5 #[true, true, true, true, true, true, true, false, true, false, false, false, false] (fun s_ => [(120, s_.1), (121, s_.2.1), (124, s_.2.2), (126, .pointer (some ⟨gb230, 0, none⟩))]) (fun s_ w' => (w'.cell? ⟨gb230, 0, none⟩ = some (.slice Ao31 xa0_1.length co31) ∧ w'.cell? ⟨gb230, 1, none⟩ = some (.slice Ao103 xa1_1.length co103)) ∧ (Kd.R (Kd.int .i32) 21 w' w.heap.size (fun k_ => some k_ ≠ (s_.2.1 : Value).ownBlock) s_.1 y235) ∧ (Kd.R (Kd.int .i32) 21 w' w.heap.size (fun k_ => some k_ ≠ (s_.1 : Value).ownBlock) s_.2.1 y238) ∧ (Kd.R (Kd.int .u8) 5 w' w.heap.size (fun k_ => some k_ ≠ (.slice Ao103 xa1_1.length co103 : Value).ownBlock) s_.2.2 y241) ∧ (Kd.R (Kd.int .u8) 5 w' w.heap.size (fun k_ => some k_ ≠ (s_.2.2 : Value).ownBlock) (.slice Ao103 xa1_1.length co103) xa1_1) ∧ (w'.heap[gb225]? = some (.cells #[.slice none 0 0, .slice none 0 0] 39 (0, 0))) ∧ (w'.heap[gb230]? = some (.cells #[.slice Ao31 xa0_1.length co31, .slice Ao103 xa1_1.length co103] 39 (0, 0))) ∧ (w'.heap[gb232]? = some (.cells #[.int .i32 ((rd_T66 l0 x19_1).f0), .int .i64 ((rd_T66 l0 x19_1).f1), .int .i64 ((rd_T66 l0 x19_1).f2)] 66 (0, 0))) ∧ (Below w.heap.size w w')) ?_ ?_
               rotate_left
               ·intro hCont
                refine two_ (i := 2) (j := 6) (Ni := some 120) (Nj := some 124) #[true, true, true, false, true, true, false, false, false, false, false, false, false] #[true, true, false, false, true, true, true, false, false, false, false, false, false] rfl rfl rfl rfl (two_of HT_.out (by kernel_rfl)) (by decide) (by decide) (fun K hK => ?_) (fun K hK => ?_)
                ·skip
                 refine Kd.R_lit_step (Kd.int .i32) _ 21 ?hg (N := 120) ?hd (xs := ([46] : List Int)) (inner := [.int .i32 46]) (ok := fun _ => True) (okp := fun _ => True) ?hr ?hp (fun _ hk => hk) trivial (Below.refl _ _) (Nat.le_refl _) (by simp) ?_; (case hd => rfl); (case hg => rfl); (case hr => first | (go_simp; done) | (go_simp; rfl)); (case hp => exact (Reps.one (show Kd.M (Kd.int .i32) _ _ _ 46 [.int .i32 46] from rfl) (Reps.none _ _)))
                 intro v236 w105 ho106 hb hg_ hnew_
                 clear hg_ hnew_
                 (first | rw [← Ny235.out] at ho106 | (simp only [Int.reduceToNat] at ho106; rw [← Ny235.out] at ho106))
                 have n0_ := Aside0.mk (Kd.R_elder' (by (with_reducible repeat (first | apply Kd.R_alloc | apply Kd.R_drewN | apply Kd.R_drew)); exact HO_a0.out) (Kd.R_base ho106) hb)
                 have n1_ := Aside0.mk (Kd.R_below (by (with_reducible repeat (first | apply Kd.R_alloc | apply Kd.R_drewN | apply Kd.R_drew)); exact HO_a1.out) hb)
                 have n2_ := Aside0.mk (Kd.R_lower (Kd.R_new' ho106 (Kd.R_lt (by (with_reducible repeat (first | apply Kd.R_alloc | apply Kd.R_drewN | apply Kd.R_drew)); exact HO_a0.out))) (below_size (by repeat (first | (with_reducible first | exact HB.out | apply below_alloc | apply pw_below_drewN | apply below_drew1 | refine below_set ?_ GE225.out | refine below_set ?_ GE230.out | refine below_set ?_ GE232.out) | exact HB.out))))
                 have n3_ := Aside0.mk (blk_below (g := gb225) (o := .cells #[.slice none 0 0, .slice none 0 0] 39 (0, 0)) (by (with_reducible repeat (first | refine blk_drewN ?_ _ | refine blk_drew ?_ | refine blk_alloc ?_ _)); exact BK225.out) hb)
                 have n4_ := Aside0.mk (blk_below (g := gb230) (o := .cells #[.slice Ao31 xa0_1.length co31, .slice Ao103 xa1_1.length co103] 39 (0, 0)) (by (with_reducible repeat (first | refine blk_drewN ?_ _ | refine blk_drew ?_ | refine blk_alloc ?_ _)); exact BK230.out) hb)
                 have n5_ := Aside0.mk (blk_below (g := gb232) (o := .cells #[.int .i32 ((rd_T66 l0 x19_1).f0), .int .i64 ((rd_T66 l0 x19_1).f1), .int .i64 ((rd_T66 l0 x19_1).f2)] 66 (0, 0)) (by (with_reducible repeat (first | refine blk_drewN ?_ _ | refine blk_drew ?_ | refine blk_alloc ?_ _)); exact BK232.out) hb)
                 have n6_ := Aside0.mk (below_step (by repeat (first | (with_reducible first | exact HB.out | apply below_alloc | apply pw_below_drewN | apply below_drew1 | refine below_set ?_ GE225.out | refine below_set ?_ GE230.out | refine below_set ?_ GE232.out) | exact HB.out)) hb)
                 clear HO_a0
                 clear HO_a1
                 clear BK225
                 clear BK230
                 clear BK232
                 clear HB
                 have HO_a0 := n0_
                 have HO_a1 := n1_
                 have HO237 := n2_
                 have BK225 := n3_
                 have BK230 := n4_
                 have BK232 := n5_
                 have HB := n6_
                 clear n0_ n1_ n2_ n3_ n4_ n5_ n6_
                 clear hb ho106
                 obtain ⟨Ao108, co108, eo108⟩ := Kd.R_slice HO237.out
                 (first | subst eo108 | (injection eo108 with f1_ f2_ f3_; have f4_ := f1_.symm; have f5_ := f3_.symm; clear f1_ f2_ f3_; subst f4_; subst f5_))
                 refine hK.out _ _ ⟨(blk_cell BK230.out 0).trans rfl, (blk_cell BK230.out 1).trans rfl⟩ (fun hHeld => ?_)
                 clear hK K
                 refine norm_ (a' := ?_) ?_ ?_
                 rotate_left
                 ·show Act.put _ (some 120) _ = _
                  simp only [Act.put, List.setIfInBounds_toArray, List.set_cons_zero, List.set_cons_succ, i64_w, i32_w]
                  rfl
                 refine two_ (i := 3) (j := 6) (Ni := some 121) (Nj := some 124) #[true, true, true, true, true, true, false, false, false, false, false, false, false] #[true, true, true, false, true, true, true, false, false, false, false, false, false] rfl rfl rfl rfl (two_of HT_.out (by kernel_rfl)) (by decide) (by decide) (fun K hK => ?_) (fun K hK => ?_)
                 ·skip
                  refine Kd.R_append_rows_step (Kd.int .i32) (w0 := w) w.heap.size (by rfl) (.tmp 119) (.tmp 120) 23 21 (.int .i32 0) 4 rfl Try.underlying23 info21 rfl (by decide) (by omega) (.slice Ao31 xa0_1.length co31) xa0_1 y235 _ _ _ (fun k_ => some k_ ≠ (.slice Ao108 y235.length co108 : Value).ownBlock) (fun _ => False) rfl rfl ?aO ?aR (fun _ _ h => h) (fun _ h => h.elim) ?aF ?aB ?aS ?aL ?_
                  (case aR => repeat (first | exact (Kd.R_reads' HO237.out).2.2 | (with_reducible refine Kd.C_alloc ?_ _) | (with_reducible refine Kd.C_drewN ?_ _) | (with_reducible refine Kd.C_drew ?_)))
                  (case aB => exact (by repeat (first | (with_reducible first | exact HB.out | apply below_alloc | apply pw_below_drewN | apply below_drew1 | refine below_set ?_ GE225.out | refine below_set ?_ GE230.out | refine below_set ?_ GE232.out) | exact HB.out)))
                  (case aF => exact (fun k_ hk => Kd.fresh' (Kd.R_lt (by (with_reducible repeat (first | apply Kd.R_alloc | apply Kd.R_drewN | apply Kd.R_drew)); exact HO237.out)) k_ hk))
                  (case aO => exact (by (with_reducible repeat (first | apply Kd.R_alloc | apply Kd.R_drewN | apply Kd.R_drew)); exact Kd.R_mono HO_a0.out (fun _ hk => hk.2)))
                  (case aS => exact (below_size (by repeat (first | (with_reducible first | exact HB.out | apply below_alloc | apply pw_below_drewN | apply below_drew1 | refine below_set ?_ GE225.out | refine below_set ?_ GE230.out | refine below_set ?_ GE232.out) | exact HB.out))))
                  (case aL => have := LMc98.out; omega)
                  intro v239 w107 ho hb hg hat
                  rw [← Ny238.out] at ho
                  have n0_ := Aside0.mk (Kd.R_over' (by (with_reducible repeat (first | apply Kd.R_alloc | apply Kd.R_drewN | apply Kd.R_drew)); exact HO_a1.out) (Kd.R_typed (by (with_reducible repeat (first | apply Kd.R_alloc | apply Kd.R_drewN | apply Kd.R_drew)); exact HO_a0.out)) (by decide) hg)
                  have n1_ := Aside0.mk (blk_grown (g := gb225) (o := .cells #[.slice none 0 0, .slice none 0 0] 39 (0, 0)) (by (with_reducible repeat (first | refine blk_drewN ?_ _ | refine blk_drew ?_ | refine blk_alloc ?_ _)); exact BK225.out) hg (Kd.R_ne HO_a0.out BK225.out (by decide)))
                  have n2_ := Aside0.mk (blk_grown (g := gb230) (o := .cells #[.slice Ao31 xa0_1.length co31, .slice Ao103 xa1_1.length co103] 39 (0, 0)) (by (with_reducible repeat (first | refine blk_drewN ?_ _ | refine blk_drew ?_ | refine blk_alloc ?_ _)); exact BK230.out) hg (Kd.R_ne HO_a0.out BK230.out (by decide)))
                  have n3_ := Aside0.mk (blk_grown (g := gb232) (o := .cells #[.int .i32 ((rd_T66 l0 x19_1).f0), .int .i64 ((rd_T66 l0 x19_1).f1), .int .i64 ((rd_T66 l0 x19_1).f2)] 66 (0, 0)) (by (with_reducible repeat (first | refine blk_drewN ?_ _ | refine blk_drew ?_ | refine blk_alloc ?_ _)); exact BK232.out) hg (Kd.R_ne HO_a0.out BK232.out (by decide)))
                  have n4_ := Aside0.mk (Kd.R_after (ok := (fun _ => True)) (by (with_reducible repeat (first | apply Kd.R_alloc | apply Kd.R_drewN | apply Kd.R_drew)); exact HO237.out) hg hat)
                  have n5_ := Aside0.mk (hb)
                  have n6_ := Aside0.mk (ho)
                  clear HO_a1
                  clear BK225
                  clear BK230
                  clear BK232
                  clear HO237
                  clear HB
                  clear HO_a0
                  have HO_a1 := n0_
                  have BK225 := n1_
                  have BK230 := n2_
                  have BK232 := n3_
                  have HO237 := n4_
                  have HB := n5_
                  have HO240 := n6_
                  clear n0_ n1_ n2_ n3_ n4_ n5_ n6_
                  clear ho hb hg hat
                  refine hK.out _ _ ⟨(blk_cell BK230.out 0).trans rfl, (blk_cell BK230.out 1).trans rfl⟩ (fun hHeld => ?_)
                  clear hK K
                  refine norm_ (a' := ?_) ?_ ?_
                  rotate_left
                  ·show Act.put _ (some 121) _ = _
                   simp only [Act.put, List.setIfInBounds_toArray, List.set_cons_zero, List.set_cons_succ, i64_w, i32_w]
                   rfl
                  refine pure_ (i := 8) (N := some 126) (v := ?_) (a' := ?_) #[true, true, true, true, true, true, false, false, true, false, false, false, false] rfl rfl (any_of HT_.out (by kernel_rfl)) (fun _ _ _ h => h) (Or.inl ⟨by rfl, ?_⟩) ?_ ?_
                  rotate_left
                  ·intro w'
                   go_simp
                   with_reducible rfl
                  rotate_left
                  ·simp only [Act.put, List.setIfInBounds_toArray, List.set_cons_zero, List.set_cons_succ, i64_w, i32_w]
                   rfl
                  refine one_ (i := 6) (N := some 124) #[true, true, true, true, true, true, true, false, true, false, false, false, false] rfl rfl (one_of HT_.out (by kernel_rfl)) (by decide) (fun K hK => ?_)
                  refine Kd.R_lit_step (Kd.int .u8) _ 5 ?hg (N := 124) ?hd (xs := ([0] : List Int)) (inner := [.int .u8 0]) (ok := fun _ => True) (okp := fun _ => True) ?hr ?hp (fun _ hk => hk) trivial (Below.refl _ _) (Nat.le_refl _) (by simp) ?_; (case hd => rfl); (case hg => rfl); (case hr => first | (go_simp; done) | (go_simp; rfl)); (case hp => exact (Reps.one (show Kd.M (Kd.int .u8) _ _ _ 0 [.int .u8 0] from rfl) (Reps.none _ _)))
                  intro v242 w109 ho110 hb hg_ hnew_
                  clear hg_ hnew_
                  (first | rw [← Ny241.out] at ho110 | (simp only [Int.reduceToNat] at ho110; rw [← Ny241.out] at ho110))
                  have n0_ := Aside0.mk (Kd.R_elder' (by (with_reducible repeat (first | apply Kd.R_alloc | apply Kd.R_drewN | apply Kd.R_drew)); exact HO_a1.out) (Kd.R_base ho110) hb)
                  have n1_ := Aside0.mk (Kd.R_below (by (with_reducible repeat (first | apply Kd.R_alloc | apply Kd.R_drewN | apply Kd.R_drew)); exact HO237.out) hb)
                  have n2_ := Aside0.mk (Kd.R_below (by (with_reducible repeat (first | apply Kd.R_alloc | apply Kd.R_drewN | apply Kd.R_drew)); exact HO240.out) hb)
                  have n3_ := Aside0.mk (Kd.R_lower (Kd.R_new' ho110 (Kd.R_lt (by (with_reducible repeat (first | apply Kd.R_alloc | apply Kd.R_drewN | apply Kd.R_drew)); exact HO_a1.out))) (below_size (by repeat (first | (with_reducible first | exact HB.out | apply below_alloc | apply pw_below_drewN | apply below_drew1 | refine below_set ?_ GE225.out | refine below_set ?_ GE230.out | refine below_set ?_ GE232.out) | exact HB.out))))
                  have n4_ := Aside0.mk (blk_below (g := gb225) (o := .cells #[.slice none 0 0, .slice none 0 0] 39 (0, 0)) (by (with_reducible repeat (first | refine blk_drewN ?_ _ | refine blk_drew ?_ | refine blk_alloc ?_ _)); exact BK225.out) hb)
                  have n5_ := Aside0.mk (blk_below (g := gb230) (o := .cells #[.slice Ao31 xa0_1.length co31, .slice Ao103 xa1_1.length co103] 39 (0, 0)) (by (with_reducible repeat (first | refine blk_drewN ?_ _ | refine blk_drew ?_ | refine blk_alloc ?_ _)); exact BK230.out) hb)
                  have n6_ := Aside0.mk (blk_below (g := gb232) (o := .cells #[.int .i32 ((rd_T66 l0 x19_1).f0), .int .i64 ((rd_T66 l0 x19_1).f1), .int .i64 ((rd_T66 l0 x19_1).f2)] 66 (0, 0)) (by (with_reducible repeat (first | refine blk_drewN ?_ _ | refine blk_drew ?_ | refine blk_alloc ?_ _)); exact BK232.out) hb)
                  have n7_ := Aside0.mk (below_step (by repeat (first | (with_reducible first | exact HB.out | apply below_alloc | apply pw_below_drewN | apply below_drew1 | refine below_set ?_ GE225.out | refine below_set ?_ GE230.out | refine below_set ?_ GE232.out) | exact HB.out)) hb)
                  clear HO_a1
                  clear HO237
                  clear HO240
                  clear BK225
                  clear BK230
                  clear BK232
                  clear HB
                  have HO_a1 := n0_
                  have HO237 := n1_
                  have HO240 := n2_
                  have HO243 := n3_
                  have BK225 := n4_
                  have BK230 := n5_
                  have BK232 := n6_
                  have HB := n7_
                  clear n0_ n1_ n2_ n3_ n4_ n5_ n6_ n7_
                  clear hb ho110
                  refine hK.out _ _ ⟨(blk_cell BK230.out 0).trans rfl, (blk_cell BK230.out 1).trans rfl⟩ (fun hHeld => ?_)
                  clear hK K
                  refine norm_ (a' := ?_) ?_ ?_
                  rotate_left
                  ·show Act.put _ (some 124) _ = _
                   simp only [Act.put, List.setIfInBounds_toArray, List.set_cons_zero, List.set_cons_succ, i64_w, i32_w]
                   rfl
                  exact norm_ (by simp only [putAll, Act.put, List.setIfInBounds_toArray, List.set_cons_zero, List.set_cons_succ]) (hCont (.slice Ao108 y235.length co108, v239, v242) _ ⟨hHeld, (by (with_reducible repeat (first | apply Kd.R_alloc | apply Kd.R_drewN | apply Kd.R_drew)); exact Kd.R_mono HO237.out (fun _ hk => hk.2)), (by (with_reducible repeat (first | apply Kd.R_alloc | apply Kd.R_drewN | apply Kd.R_drew)); exact HO240.out), (by (with_reducible repeat (first | apply Kd.R_alloc | apply Kd.R_drewN | apply Kd.R_drew)); exact Kd.R_mono HO243.out (fun _ hk => hk.2)), (by (with_reducible repeat (first | apply Kd.R_alloc | apply Kd.R_drewN | apply Kd.R_drew)); exact Kd.R_mono HO_a1.out (fun _ hk => hk.2)), (by (with_reducible repeat (first | refine blk_drewN ?_ _ | refine blk_drew ?_ | refine blk_alloc ?_ _)); exact BK225.out), (by (with_reducible repeat (first | refine blk_drewN ?_ _ | refine blk_drew ?_ | refine blk_alloc ?_ _)); exact BK230.out), (by (with_reducible repeat (first | refine blk_drewN ?_ _ | refine blk_drew ?_ | refine blk_alloc ?_ _)); exact BK232.out), (by repeat (first | (with_reducible first | exact HB.out | apply below_alloc | apply pw_below_drewN | apply below_drew1 | refine below_set ?_ GE225.out | refine below_set ?_ GE230.out | refine below_set ?_ GE232.out) | exact HB.out))⟩)
                 ·skip
                  refine Kd.R_lit_step (Kd.int .u8) _ 5 ?hg (N := 124) ?hd (xs := ([0] : List Int)) (inner := [.int .u8 0]) (ok := fun _ => True) (okp := fun _ => True) ?hr ?hp (fun _ hk => hk) trivial (Below.refl _ _) (Nat.le_refl _) (by simp) ?_; (case hd => rfl); (case hg => rfl); (case hr => first | (go_simp; done) | (go_simp; rfl)); (case hp => exact (Reps.one (show Kd.M (Kd.int .u8) _ _ _ 0 [.int .u8 0] from rfl) (Reps.none _ _)))
                  intro v242 w107 ho108 hb hg_ hnew_
                  clear hg_ hnew_
                  (first | rw [← Ny241.out] at ho108 | (simp only [Int.reduceToNat] at ho108; rw [← Ny241.out] at ho108))
                  have n0_ := Aside0.mk (Kd.R_below (by (with_reducible repeat (first | apply Kd.R_alloc | apply Kd.R_drewN | apply Kd.R_drew)); exact HO_a0.out) hb)
                  have n1_ := Aside0.mk (Kd.R_elder' (by (with_reducible repeat (first | apply Kd.R_alloc | apply Kd.R_drewN | apply Kd.R_drew)); exact HO_a1.out) (Kd.R_base ho108) hb)
                  have n2_ := Aside0.mk (Kd.R_below (by (with_reducible repeat (first | apply Kd.R_alloc | apply Kd.R_drewN | apply Kd.R_drew)); exact HO237.out) hb)
                  have n3_ := Aside0.mk (Kd.R_lower (Kd.R_new' ho108 (Kd.R_lt (by (with_reducible repeat (first | apply Kd.R_alloc | apply Kd.R_drewN | apply Kd.R_drew)); exact HO_a1.out))) (below_size (by repeat (first | (with_reducible first | exact HB.out | apply below_alloc | apply pw_below_drewN | apply below_drew1 | refine below_set ?_ GE225.out | refine below_set ?_ GE230.out | refine below_set ?_ GE232.out) | exact HB.out))))
                  have n4_ := Aside0.mk (blk_below (g := gb225) (o := .cells #[.slice none 0 0, .slice none 0 0] 39 (0, 0)) (by (with_reducible repeat (first | refine blk_drewN ?_ _ | refine blk_drew ?_ | refine blk_alloc ?_ _)); exact BK225.out) hb)
                  have n5_ := Aside0.mk (blk_below (g := gb230) (o := .cells #[.slice Ao31 xa0_1.length co31, .slice Ao103 xa1_1.length co103] 39 (0, 0)) (by (with_reducible repeat (first | refine blk_drewN ?_ _ | refine blk_drew ?_ | refine blk_alloc ?_ _)); exact BK230.out) hb)
                  have n6_ := Aside0.mk (blk_below (g := gb232) (o := .cells #[.int .i32 ((rd_T66 l0 x19_1).f0), .int .i64 ((rd_T66 l0 x19_1).f1), .int .i64 ((rd_T66 l0 x19_1).f2)] 66 (0, 0)) (by (with_reducible repeat (first | refine blk_drewN ?_ _ | refine blk_drew ?_ | refine blk_alloc ?_ _)); exact BK232.out) hb)
                  have n7_ := Aside0.mk (below_step (by repeat (first | (with_reducible first | exact HB.out | apply below_alloc | apply pw_below_drewN | apply below_drew1 | refine below_set ?_ GE225.out | refine below_set ?_ GE230.out | refine below_set ?_ GE232.out) | exact HB.out)) hb)
                  clear HO_a0
                  clear HO_a1
                  clear HO237
                  clear BK225
                  clear BK230
                  clear BK232
                  clear HB
                  have HO_a0 := n0_
                  have HO_a1 := n1_
                  have HO237 := n2_
                  have HO243 := n3_
                  have BK225 := n4_
                  have BK230 := n5_
                  have BK232 := n6_
                  have HB := n7_
                  clear n0_ n1_ n2_ n3_ n4_ n5_ n6_ n7_
                  clear hb ho108
                  obtain ⟨Ao110, co110, eo110⟩ := Kd.R_slice HO237.out
                  (first | subst eo110 | (injection eo110 with f1_ f2_ f3_; have f4_ := f1_.symm; have f5_ := f3_.symm; clear f1_ f2_ f3_; subst f4_; subst f5_))
                  refine hK.out _ _ ⟨(blk_cell BK230.out 0).trans rfl, (blk_cell BK230.out 1).trans rfl⟩ (fun hHeld => ?_)
                  clear hK K
                  refine norm_ (a' := ?_) ?_ ?_
                  rotate_left
                  ·show Act.put _ (some 124) _ = _
                   simp only [Act.put, List.setIfInBounds_toArray, List.set_cons_zero, List.set_cons_succ, i64_w, i32_w]
                   rfl
                  refine one_ (i := 3) (N := some 121) #[true, true, true, true, true, true, true, false, false, false, false, false, false] rfl rfl (one_of HT_.out (by kernel_rfl)) (by decide) (fun K hK => ?_)
                  refine Kd.R_append_rows_step (Kd.int .i32) (w0 := w) w.heap.size (by rfl) (.tmp 119) (.tmp 120) 23 21 (.int .i32 0) 4 rfl Try.underlying23 info21 rfl (by decide) (by omega) (.slice Ao31 xa0_1.length co31) xa0_1 y235 _ _ _ (fun k_ => some k_ ≠ (.slice Ao110 y235.length co110 : Value).ownBlock) (fun _ => False) rfl rfl ?aO ?aR (fun _ _ h => h) (fun _ h => h.elim) ?aF ?aB ?aS ?aL ?_
                  (case aR => repeat (first | exact (Kd.R_reads' HO237.out).2.2 | (with_reducible refine Kd.C_alloc ?_ _) | (with_reducible refine Kd.C_drewN ?_ _) | (with_reducible refine Kd.C_drew ?_)))
                  (case aB => exact (by repeat (first | (with_reducible first | exact HB.out | apply below_alloc | apply pw_below_drewN | apply below_drew1 | refine below_set ?_ GE225.out | refine below_set ?_ GE230.out | refine below_set ?_ GE232.out) | exact HB.out)))
                  (case aF => exact (fun k_ hk => Kd.fresh' (Kd.R_lt (by (with_reducible repeat (first | apply Kd.R_alloc | apply Kd.R_drewN | apply Kd.R_drew)); exact HO237.out)) k_ hk))
                  (case aO => exact (by (with_reducible repeat (first | apply Kd.R_alloc | apply Kd.R_drewN | apply Kd.R_drew)); exact Kd.R_mono HO_a0.out (fun _ hk => hk.2)))
                  (case aS => exact (below_size (by repeat (first | (with_reducible first | exact HB.out | apply below_alloc | apply pw_below_drewN | apply below_drew1 | refine below_set ?_ GE225.out | refine below_set ?_ GE230.out | refine below_set ?_ GE232.out) | exact HB.out))))
                  (case aL => have := LMc98.out; omega)
                  intro v239 w109 ho hb hg hat
                  rw [← Ny238.out] at ho
                  have n0_ := Aside0.mk (Kd.R_over' (by (with_reducible repeat (first | apply Kd.R_alloc | apply Kd.R_drewN | apply Kd.R_drew)); exact HO_a1.out) (Kd.R_typed (by (with_reducible repeat (first | apply Kd.R_alloc | apply Kd.R_drewN | apply Kd.R_drew)); exact HO_a0.out)) (by decide) hg)
                  have n1_ := Aside0.mk (blk_grown (g := gb225) (o := .cells #[.slice none 0 0, .slice none 0 0] 39 (0, 0)) (by (with_reducible repeat (first | refine blk_drewN ?_ _ | refine blk_drew ?_ | refine blk_alloc ?_ _)); exact BK225.out) hg (Kd.R_ne HO_a0.out BK225.out (by decide)))
                  have n2_ := Aside0.mk (blk_grown (g := gb230) (o := .cells #[.slice Ao31 xa0_1.length co31, .slice Ao103 xa1_1.length co103] 39 (0, 0)) (by (with_reducible repeat (first | refine blk_drewN ?_ _ | refine blk_drew ?_ | refine blk_alloc ?_ _)); exact BK230.out) hg (Kd.R_ne HO_a0.out BK230.out (by decide)))
                  have n3_ := Aside0.mk (blk_grown (g := gb232) (o := .cells #[.int .i32 ((rd_T66 l0 x19_1).f0), .int .i64 ((rd_T66 l0 x19_1).f1), .int .i64 ((rd_T66 l0 x19_1).f2)] 66 (0, 0)) (by (with_reducible repeat (first | refine blk_drewN ?_ _ | refine blk_drew ?_ | refine blk_alloc ?_ _)); exact BK232.out) hg (Kd.R_ne HO_a0.out BK232.out (by decide)))
                  have n4_ := Aside0.mk (Kd.R_after (ok := (fun _ => True)) (by (with_reducible repeat (first | apply Kd.R_alloc | apply Kd.R_drewN | apply Kd.R_drew)); exact HO237.out) hg hat)
                  have n5_ := Aside0.mk (Kd.R_over' (by (with_reducible repeat (first | apply Kd.R_alloc | apply Kd.R_drewN | apply Kd.R_drew)); exact HO243.out) (Kd.R_typed (by (with_reducible repeat (first | apply Kd.R_alloc | apply Kd.R_drewN | apply Kd.R_drew)); exact HO_a0.out)) (by decide) hg)
                  have n6_ := Aside0.mk (hb)
                  have n7_ := Aside0.mk (ho)
                  clear HO_a1
                  clear BK225
                  clear BK230
                  clear BK232
                  clear HO237
                  clear HO243
                  clear HB
                  clear HO_a0
                  have HO_a1 := n0_
                  have BK225 := n1_
                  have BK230 := n2_
                  have BK232 := n3_
                  have HO237 := n4_
                  have HO243 := n5_
                  have HB := n6_
                  have HO240 := n7_
                  clear n0_ n1_ n2_ n3_ n4_ n5_ n6_ n7_
                  clear ho hb hg hat
                  refine hK.out _ _ ⟨(blk_cell BK230.out 0).trans rfl, (blk_cell BK230.out 1).trans rfl⟩ (fun hHeld => ?_)
                  clear hK K
                  refine norm_ (a' := ?_) ?_ ?_
                  rotate_left
                  ·show Act.put _ (some 121) _ = _
                   simp only [Act.put, List.setIfInBounds_toArray, List.set_cons_zero, List.set_cons_succ, i64_w, i32_w]
                   rfl
                  refine pure_ (i := 8) (N := some 126) (v := ?_) (a' := ?_) #[true, true, true, true, true, true, true, false, true, false, false, false, false] rfl rfl (any_of HT_.out (by kernel_rfl)) (fun _ _ _ h => h) (Or.inl ⟨by rfl, ?_⟩) ?_ ?_
                  rotate_left
                  ·intro w'
                   go_simp
                   with_reducible rfl
                  rotate_left
                  ·simp only [Act.put, List.setIfInBounds_toArray, List.set_cons_zero, List.set_cons_succ, i64_w, i32_w]
                   rfl
                  exact norm_ (by simp only [putAll, Act.put, List.setIfInBounds_toArray, List.set_cons_zero, List.set_cons_succ]) (hCont (.slice Ao110 y235.length co110, v239, v242) _ ⟨hHeld, (by (with_reducible repeat (first | apply Kd.R_alloc | apply Kd.R_drewN | apply Kd.R_drew)); exact Kd.R_mono HO237.out (fun _ hk => hk.2)), (by (with_reducible repeat (first | apply Kd.R_alloc | apply Kd.R_drewN | apply Kd.R_drew)); exact HO240.out), (by (with_reducible repeat (first | apply Kd.R_alloc | apply Kd.R_drewN | apply Kd.R_drew)); exact Kd.R_mono HO243.out (fun _ hk => hk.2)), (by (with_reducible repeat (first | apply Kd.R_alloc | apply Kd.R_drewN | apply Kd.R_drew)); exact Kd.R_mono HO_a1.out (fun _ hk => hk.2)), (by (with_reducible repeat (first | refine blk_drewN ?_ _ | refine blk_drew ?_ | refine blk_alloc ?_ _)); exact BK225.out), (by (with_reducible repeat (first | refine blk_drewN ?_ _ | refine blk_drew ?_ | refine blk_alloc ?_ _)); exact BK230.out), (by (with_reducible repeat (first | refine blk_drewN ?_ _ | refine blk_drew ?_ | refine blk_alloc ?_ _)); exact BK232.out), (by repeat (first | (with_reducible first | exact HB.out | apply below_alloc | apply pw_below_drewN | apply below_drew1 | refine below_set ?_ GE225.out | refine below_set ?_ GE230.out | refine below_set ?_ GE232.out) | exact HB.out))⟩)
                ·skip
                 refine Kd.R_lit_step (Kd.int .u8) _ 5 ?hg (N := 124) ?hd (xs := ([0] : List Int)) (inner := [.int .u8 0]) (ok := fun _ => True) (okp := fun _ => True) ?hr ?hp (fun _ hk => hk) trivial (Below.refl _ _) (Nat.le_refl _) (by simp) ?_; (case hd => rfl); (case hg => rfl); (case hr => first | (go_simp; done) | (go_simp; rfl)); (case hp => exact (Reps.one (show Kd.M (Kd.int .u8) _ _ _ 0 [.int .u8 0] from rfl) (Reps.none _ _)))
                 intro v242 w105 ho106 hb hg_ hnew_
                 clear hg_ hnew_
                 (first | rw [← Ny241.out] at ho106 | (simp only [Int.reduceToNat] at ho106; rw [← Ny241.out] at ho106))
                 have n0_ := Aside0.mk (Kd.R_below (by (with_reducible repeat (first | apply Kd.R_alloc | apply Kd.R_drewN | apply Kd.R_drew)); exact HO_a0.out) hb)
                 have n1_ := Aside0.mk (Kd.R_elder' (by (with_reducible repeat (first | apply Kd.R_alloc | apply Kd.R_drewN | apply Kd.R_drew)); exact HO_a1.out) (Kd.R_base ho106) hb)
                 have n2_ := Aside0.mk (Kd.R_lower (Kd.R_new' ho106 (Kd.R_lt (by (with_reducible repeat (first | apply Kd.R_alloc | apply Kd.R_drewN | apply Kd.R_drew)); exact HO_a1.out))) (below_size (by repeat (first | (with_reducible first | exact HB.out | apply below_alloc | apply pw_below_drewN | apply below_drew1 | refine below_set ?_ GE225.out | refine below_set ?_ GE230.out | refine below_set ?_ GE232.out) | exact HB.out))))
                 have n3_ := Aside0.mk (blk_below (g := gb225) (o := .cells #[.slice none 0 0, .slice none 0 0] 39 (0, 0)) (by (with_reducible repeat (first | refine blk_drewN ?_ _ | refine blk_drew ?_ | refine blk_alloc ?_ _)); exact BK225.out) hb)
                 have n4_ := Aside0.mk (blk_below (g := gb230) (o := .cells #[.slice Ao31 xa0_1.length co31, .slice Ao103 xa1_1.length co103] 39 (0, 0)) (by (with_reducible repeat (first | refine blk_drewN ?_ _ | refine blk_drew ?_ | refine blk_alloc ?_ _)); exact BK230.out) hb)
                 have n5_ := Aside0.mk (blk_below (g := gb232) (o := .cells #[.int .i32 ((rd_T66 l0 x19_1).f0), .int .i64 ((rd_T66 l0 x19_1).f1), .int .i64 ((rd_T66 l0 x19_1).f2)] 66 (0, 0)) (by (with_reducible repeat (first | refine blk_drewN ?_ _ | refine blk_drew ?_ | refine blk_alloc ?_ _)); exact BK232.out) hb)
                 have n6_ := Aside0.mk (below_step (by repeat (first | (with_reducible first | exact HB.out | apply below_alloc | apply pw_below_drewN | apply below_drew1 | refine below_set ?_ GE225.out | refine below_set ?_ GE230.out | refine below_set ?_ GE232.out) | exact HB.out)) hb)
                 clear HO_a0
                 clear HO_a1
                 clear BK225
                 clear BK230
                 clear BK232
                 clear HB
                 have HO_a0 := n0_
                 have HO_a1 := n1_
                 have HO243 := n2_
                 have BK225 := n3_
                 have BK230 := n4_
                 have BK232 := n5_
                 have HB := n6_
                 clear n0_ n1_ n2_ n3_ n4_ n5_ n6_
                 clear hb ho106
                 refine hK.out _ _ ⟨(blk_cell BK230.out 0).trans rfl, (blk_cell BK230.out 1).trans rfl⟩ (fun hHeld => ?_)
                 clear hK K
                 refine norm_ (a' := ?_) ?_ ?_
                 rotate_left
                 ·show Act.put _ (some 124) _ = _
                  simp only [Act.put, List.setIfInBounds_toArray, List.set_cons_zero, List.set_cons_succ, i64_w, i32_w]
                  rfl
                 refine one_ (i := 2) (N := some 120) #[true, true, true, false, true, true, true, false, false, false, false, false, false] rfl rfl (one_of HT_.out (by kernel_rfl)) (by decide) (fun K hK => ?_)
                 refine Kd.R_lit_step (Kd.int .i32) _ 21 ?hg (N := 120) ?hd (xs := ([46] : List Int)) (inner := [.int .i32 46]) (ok := fun _ => True) (okp := fun _ => True) ?hr ?hp (fun _ hk => hk) trivial (Below.refl _ _) (Nat.le_refl _) (by simp) ?_; (case hd => rfl); (case hg => rfl); (case hr => first | (go_simp; done) | (go_simp; rfl)); (case hp => exact (Reps.one (show Kd.M (Kd.int .i32) _ _ _ 46 [.int .i32 46] from rfl) (Reps.none _ _)))
                 intro v236 w107 ho108 hb hg_ hnew_
                 clear hg_ hnew_
                 (first | rw [← Ny235.out] at ho108 | (simp only [Int.reduceToNat] at ho108; rw [← Ny235.out] at ho108))
                 have n0_ := Aside0.mk (Kd.R_elder' (by (with_reducible repeat (first | apply Kd.R_alloc | apply Kd.R_drewN | apply Kd.R_drew)); exact HO_a0.out) (Kd.R_base ho108) hb)
                 have n1_ := Aside0.mk (Kd.R_below (by (with_reducible repeat (first | apply Kd.R_alloc | apply Kd.R_drewN | apply Kd.R_drew)); exact HO_a1.out) hb)
                 have n2_ := Aside0.mk (Kd.R_below (by (with_reducible repeat (first | apply Kd.R_alloc | apply Kd.R_drewN | apply Kd.R_drew)); exact HO243.out) hb)
                 have n3_ := Aside0.mk (Kd.R_lower (Kd.R_new' ho108 (Kd.R_lt (by (with_reducible repeat (first | apply Kd.R_alloc | apply Kd.R_drewN | apply Kd.R_drew)); exact HO_a0.out))) (below_size (by repeat (first | (with_reducible first | exact HB.out | apply below_alloc | apply pw_below_drewN | apply below_drew1 | refine below_set ?_ GE225.out | refine below_set ?_ GE230.out | refine below_set ?_ GE232.out) | exact HB.out))))
                 have n4_ := Aside0.mk (blk_below (g := gb225) (o := .cells #[.slice none 0 0, .slice none 0 0] 39 (0, 0)) (by (with_reducible repeat (first | refine blk_drewN ?_ _ | refine blk_drew ?_ | refine blk_alloc ?_ _)); exact BK225.out) hb)
                 have n5_ := Aside0.mk (blk_below (g := gb230) (o := .cells #[.slice Ao31 xa0_1.length co31, .slice Ao103 xa1_1.length co103] 39 (0, 0)) (by (with_reducible repeat (first | refine blk_drewN ?_ _ | refine blk_drew ?_ | refine blk_alloc ?_ _)); exact BK230.out) hb)
                 have n6_ := Aside0.mk (blk_below (g := gb232) (o := .cells #[.int .i32 ((rd_T66 l0 x19_1).f0), .int .i64 ((rd_T66 l0 x19_1).f1), .int .i64 ((rd_T66 l0 x19_1).f2)] 66 (0, 0)) (by (with_reducible repeat (first | refine blk_drewN ?_ _ | refine blk_drew ?_ | refine blk_alloc ?_ _)); exact BK232.out) hb)
                 have n7_ := Aside0.mk (below_step (by repeat (first | (with_reducible first | exact HB.out | apply below_alloc | apply pw_below_drewN | apply below_drew1 | refine below_set ?_ GE225.out | refine below_set ?_ GE230.out | refine below_set ?_ GE232.out) | exact HB.out)) hb)
                 clear HO_a0
                 clear HO_a1
                 clear HO243
                 clear BK225
                 clear BK230
                 clear BK232
                 clear HB
                 have HO_a0 := n0_
                 have HO_a1 := n1_
                 have HO243 := n2_
                 have HO237 := n3_
                 have BK225 := n4_
                 have BK230 := n5_
                 have BK232 := n6_
                 have HB := n7_
                 clear n0_ n1_ n2_ n3_ n4_ n5_ n6_ n7_
                 clear hb ho108
                 obtain ⟨Ao110, co110, eo110⟩ := Kd.R_slice HO237.out
                 (first | subst eo110 | (injection eo110 with f1_ f2_ f3_; have f4_ := f1_.symm; have f5_ := f3_.symm; clear f1_ f2_ f3_; subst f4_; subst f5_))
                 refine hK.out _ _ ⟨(blk_cell BK230.out 0).trans rfl, (blk_cell BK230.out 1).trans rfl⟩ (fun hHeld => ?_)
                 clear hK K
                 refine norm_ (a' := ?_) ?_ ?_
                 rotate_left
                 ·show Act.put _ (some 120) _ = _
                  simp only [Act.put, List.setIfInBounds_toArray, List.set_cons_zero, List.set_cons_succ, i64_w, i32_w]
                  rfl
                 refine one_ (i := 3) (N := some 121) #[true, true, true, true, true, true, true, false, false, false, false, false, false] rfl rfl (one_of HT_.out (by kernel_rfl)) (by decide) (fun K hK => ?_)
                 refine Kd.R_append_rows_step (Kd.int .i32) (w0 := w) w.heap.size (by rfl) (.tmp 119) (.tmp 120) 23 21 (.int .i32 0) 4 rfl Try.underlying23 info21 rfl (by decide) (by omega) (.slice Ao31 xa0_1.length co31) xa0_1 y235 _ _ _ (fun k_ => some k_ ≠ (.slice Ao110 y235.length co110 : Value).ownBlock) (fun _ => False) rfl rfl ?aO ?aR (fun _ _ h => h) (fun _ h => h.elim) ?aF ?aB ?aS ?aL ?_
                 (case aR => repeat (first | exact (Kd.R_reads' HO237.out).2.2 | (with_reducible refine Kd.C_alloc ?_ _) | (with_reducible refine Kd.C_drewN ?_ _) | (with_reducible refine Kd.C_drew ?_)))
                 (case aB => exact (by repeat (first | (with_reducible first | exact HB.out | apply below_alloc | apply pw_below_drewN | apply below_drew1 | refine below_set ?_ GE225.out | refine below_set ?_ GE230.out | refine below_set ?_ GE232.out) | exact HB.out)))
                 (case aF => exact (fun k_ hk => Kd.fresh' (Kd.R_lt (by (with_reducible repeat (first | apply Kd.R_alloc | apply Kd.R_drewN | apply Kd.R_drew)); exact HO237.out)) k_ hk))
                 (case aO => exact (by (with_reducible repeat (first | apply Kd.R_alloc | apply Kd.R_drewN | apply Kd.R_drew)); exact Kd.R_mono HO_a0.out (fun _ hk => hk.2)))
                 (case aS => exact (below_size (by repeat (first | (with_reducible first | exact HB.out | apply below_alloc | apply pw_below_drewN | apply below_drew1 | refine below_set ?_ GE225.out | refine below_set ?_ GE230.out | refine below_set ?_ GE232.out) | exact HB.out))))
                 (case aL => have := LMc98.out; omega)
                 intro v239 w109 ho hb hg hat
                 rw [← Ny238.out] at ho
                 have n0_ := Aside0.mk (Kd.R_over' (by (with_reducible repeat (first | apply Kd.R_alloc | apply Kd.R_drewN | apply Kd.R_drew)); exact HO_a1.out) (Kd.R_typed (by (with_reducible repeat (first | apply Kd.R_alloc | apply Kd.R_drewN | apply Kd.R_drew)); exact HO_a0.out)) (by decide) hg)
                 have n1_ := Aside0.mk (blk_grown (g := gb225) (o := .cells #[.slice none 0 0, .slice none 0 0] 39 (0, 0)) (by (with_reducible repeat (first | refine blk_drewN ?_ _ | refine blk_drew ?_ | refine blk_alloc ?_ _)); exact BK225.out) hg (Kd.R_ne HO_a0.out BK225.out (by decide)))
                 have n2_ := Aside0.mk (blk_grown (g := gb230) (o := .cells #[.slice Ao31 xa0_1.length co31, .slice Ao103 xa1_1.length co103] 39 (0, 0)) (by (with_reducible repeat (first | refine blk_drewN ?_ _ | refine blk_drew ?_ | refine blk_alloc ?_ _)); exact BK230.out) hg (Kd.R_ne HO_a0.out BK230.out (by decide)))
                 have n3_ := Aside0.mk (blk_grown (g := gb232) (o := .cells #[.int .i32 ((rd_T66 l0 x19_1).f0), .int .i64 ((rd_T66 l0 x19_1).f1), .int .i64 ((rd_T66 l0 x19_1).f2)] 66 (0, 0)) (by (with_reducible repeat (first | refine blk_drewN ?_ _ | refine blk_drew ?_ | refine blk_alloc ?_ _)); exact BK232.out) hg (Kd.R_ne HO_a0.out BK232.out (by decide)))
                 have n4_ := Aside0.mk (Kd.R_over' (by (with_reducible repeat (first | apply Kd.R_alloc | apply Kd.R_drewN | apply Kd.R_drew)); exact HO243.out) (Kd.R_typed (by (with_reducible repeat (first | apply Kd.R_alloc | apply Kd.R_drewN | apply Kd.R_drew)); exact HO_a0.out)) (by decide) hg)
                 have n5_ := Aside0.mk (Kd.R_after (ok := (fun _ => True)) (by (with_reducible repeat (first | apply Kd.R_alloc | apply Kd.R_drewN | apply Kd.R_drew)); exact HO237.out) hg hat)
                 have n6_ := Aside0.mk (hb)
                 have n7_ := Aside0.mk (ho)
                 clear HO_a1
                 clear BK225
                 clear BK230
                 clear BK232
                 clear HO243
                 clear HO237
                 clear HB
                 clear HO_a0
                 have HO_a1 := n0_
                 have BK225 := n1_
                 have BK230 := n2_
                 have BK232 := n3_
                 have HO243 := n4_
                 have HO237 := n5_
                 have HB := n6_
                 have HO240 := n7_
                 clear n0_ n1_ n2_ n3_ n4_ n5_ n6_ n7_
                 clear ho hb hg hat
                 refine hK.out _ _ ⟨(blk_cell BK230.out 0).trans rfl, (blk_cell BK230.out 1).trans rfl⟩ (fun hHeld => ?_)
                 clear hK K
                 refine norm_ (a' := ?_) ?_ ?_
                 rotate_left
                 ·show Act.put _ (some 121) _ = _
                  simp only [Act.put, List.setIfInBounds_toArray, List.set_cons_zero, List.set_cons_succ, i64_w, i32_w]
                  rfl
                 refine pure_ (i := 8) (N := some 126) (v := ?_) (a' := ?_) #[true, true, true, true, true, true, true, false, true, false, false, false, false] rfl rfl (any_of HT_.out (by kernel_rfl)) (fun _ _ _ h => h) (Or.inl ⟨by rfl, ?_⟩) ?_ ?_
                 rotate_left
                 ·intro w'
                  go_simp
                  with_reducible rfl
                 rotate_left
                 ·simp only [Act.put, List.setIfInBounds_toArray, List.set_cons_zero, List.set_cons_succ, i64_w, i32_w]
                  rfl
                 exact norm_ (by simp only [putAll, Act.put, List.setIfInBounds_toArray, List.set_cons_zero, List.set_cons_succ]) (hCont (.slice Ao110 y235.length co110, v239, v242) _ ⟨hHeld, (by (with_reducible repeat (first | apply Kd.R_alloc | apply Kd.R_drewN | apply Kd.R_drew)); exact Kd.R_mono HO237.out (fun _ hk => hk.2)), (by (with_reducible repeat (first | apply Kd.R_alloc | apply Kd.R_drewN | apply Kd.R_drew)); exact HO240.out), (by (with_reducible repeat (first | apply Kd.R_alloc | apply Kd.R_drewN | apply Kd.R_drew)); exact Kd.R_mono HO243.out (fun _ hk => hk.2)), (by (with_reducible repeat (first | apply Kd.R_alloc | apply Kd.R_drewN | apply Kd.R_drew)); exact Kd.R_mono HO_a1.out (fun _ hk => hk.2)), (by (with_reducible repeat (first | refine blk_drewN ?_ _ | refine blk_drew ?_ | refine blk_alloc ?_ _)); exact BK225.out), (by (with_reducible repeat (first | refine blk_drewN ?_ _ | refine blk_drew ?_ | refine blk_alloc ?_ _)); exact BK230.out), (by (with_reducible repeat (first | refine blk_drewN ?_ _ | refine blk_drew ?_ | refine blk_alloc ?_ _)); exact BK232.out), (by repeat (first | (with_reducible first | exact HB.out | apply below_alloc | apply pw_below_drewN | apply below_drew1 | refine below_set ?_ GE225.out | refine below_set ?_ GE230.out | refine below_set ?_ GE232.out) | exact HB.out))⟩)
               rintro ⟨v236, v239, v242⟩ w111 ⟨hS_, h0_, h1_, h2_, h3_, h4_, h5_, h6_, h7_⟩
               have n0_ : Aside0 (Kd.R (Kd.int .i32) 21 w111 w.heap.size (fun k_ => some k_ ≠ (v239 : Value).ownBlock) v236 y235) := ⟨h0_⟩
               have n1_ : Aside0 (Kd.R (Kd.int .i32) 21 w111 w.heap.size (fun k_ => some k_ ≠ (v236 : Value).ownBlock) v239 y238) := ⟨h1_⟩
               have n2_ : Aside0 (Kd.R (Kd.int .u8) 5 w111 w.heap.size (fun k_ => some k_ ≠ (.slice Ao103 xa1_1.length co103 : Value).ownBlock) v242 y241) := ⟨h2_⟩
               have n3_ : Aside0 (Kd.R (Kd.int .u8) 5 w111 w.heap.size (fun k_ => some k_ ≠ (v242 : Value).ownBlock) (.slice Ao103 xa1_1.length co103) xa1_1) := ⟨h3_⟩
               have n4_ : Aside0 (w111.heap[gb225]? = some (.cells #[.slice none 0 0, .slice none 0 0] 39 (0, 0))) := ⟨h4_⟩
               have n5_ : Aside0 (w111.heap[gb230]? = some (.cells #[.slice Ao31 xa0_1.length co31, .slice Ao103 xa1_1.length co103] 39 (0, 0))) := ⟨h5_⟩
               have n6_ : Aside0 (w111.heap[gb232]? = some (.cells #[.int .i32 ((rd_T66 l0 x19_1).f0), .int .i64 ((rd_T66 l0 x19_1).f1), .int .i64 ((rd_T66 l0 x19_1).f2)] 66 (0, 0))) := ⟨h6_⟩
               have n7_ : Aside0 (Below w.heap.size w w111) := ⟨h7_⟩
               clear HO_a0
               clear HO_a1
               clear BK225
               clear BK230
               clear BK232
               clear HB
               clear h0_ h1_ h2_ h3_ h4_ h5_ h6_ h7_
               have HO237 := n0_
               have HO240 := n1_
               have HO243 := n2_
               have HO_a1 := n3_
               have BK225 := n4_
               have BK230 := n5_
               have BK232 := n6_
               have HB := n7_
               clear n0_ n1_ n2_ n3_ n4_ n5_ n6_ n7_
               have hHeld : w111.cell? ⟨gb230, 0, none⟩ = some (.slice Ao31 xa0_1.length co31) ∧ w111.cell? ⟨gb230, 1, none⟩ = some (.slice Ao103 xa1_1.length co103) := hS_
               obtain ⟨Ao113, co113, eo113⟩ := Kd.R_slice HO243.out
               (first | subst eo113 | (injection eo113 with f1_ f2_ f3_; have f4_ := f1_.symm; have f5_ := f3_.symm; clear f1_ f2_ f3_; subst f4_; subst f5_))
               refine norm_ (a' := ?_) ?_ ?_
               rotate_left
               ·simp only [putAll, Act.put, List.setIfInBounds_toArray, List.set_cons_zero, List.set_cons_succ]
                rfl
               refine one_ (i := 7) (N := some 125) #[true, true, true, true, true, true, true, true, true, false, false, false, false] rfl rfl (one_of HT_.out (by kernel_rfl)) (by decide) (fun K hK => ?_)
               refine Kd.R_append_rows_step (Kd.int .u8) (w0 := w) w.heap.size (by rfl) (.tmp 123) (.tmp 124) 27 5 (.int .u8 0) 1 rfl Try.underlying27 info5 rfl (by decide) (by omega) (.slice Ao103 xa1_1.length co103) xa1_1 y241 _ _ _ (fun k_ => some k_ ≠ (.slice Ao113 y241.length co113 : Value).ownBlock) (fun _ => False) rfl rfl ?aO ?aR (fun _ _ h => h) (fun _ h => h.elim) ?aF ?aB ?aS ?aL ?_
               (case aR => repeat (first | exact (Kd.R_reads' HO243.out).2.2 | (with_reducible refine Kd.C_alloc ?_ _) | (with_reducible refine Kd.C_drewN ?_ _) | (with_reducible refine Kd.C_drew ?_)))
               (case aB => exact (by repeat (first | (with_reducible first | exact HB.out | apply below_alloc | apply pw_below_drewN | apply below_drew1 | refine below_set ?_ GE225.out | refine below_set ?_ GE230.out | refine below_set ?_ GE232.out) | exact HB.out)))
               (case aF => exact (fun k_ hk => Kd.fresh' (Kd.R_lt (by (with_reducible repeat (first | apply Kd.R_alloc | apply Kd.R_drewN | apply Kd.R_drew)); exact HO243.out)) k_ hk))
               (case aO => exact (by (with_reducible repeat (first | apply Kd.R_alloc | apply Kd.R_drewN | apply Kd.R_drew)); exact HO_a1.out))
               (case aS => exact (below_size (by repeat (first | (with_reducible first | exact HB.out | apply below_alloc | apply pw_below_drewN | apply below_drew1 | refine below_set ?_ GE225.out | refine below_set ?_ GE230.out | refine below_set ?_ GE232.out) | exact HB.out))))
               (case aL => have := LMc99.out; omega)
               intro v245 w112 ho hb hg hat
               rw [← Ny244.out] at ho
               have n0_ := Aside0.mk (blk_grown (g := gb225) (o := .cells #[.slice none 0 0, .slice none 0 0] 39 (0, 0)) (by (with_reducible repeat (first | refine blk_drewN ?_ _ | refine blk_drew ?_ | refine blk_alloc ?_ _)); exact BK225.out) hg (Kd.R_ne HO_a1.out BK225.out (by decide)))
               have n1_ := Aside0.mk (blk_grown (g := gb230) (o := .cells #[.slice Ao31 xa0_1.length co31, .slice Ao103 xa1_1.length co103] 39 (0, 0)) (by (with_reducible repeat (first | refine blk_drewN ?_ _ | refine blk_drew ?_ | refine blk_alloc ?_ _)); exact BK230.out) hg (Kd.R_ne HO_a1.out BK230.out (by decide)))
               have n2_ := Aside0.mk (blk_grown (g := gb232) (o := .cells #[.int .i32 ((rd_T66 l0 x19_1).f0), .int .i64 ((rd_T66 l0 x19_1).f1), .int .i64 ((rd_T66 l0 x19_1).f2)] 66 (0, 0)) (by (with_reducible repeat (first | refine blk_drewN ?_ _ | refine blk_drew ?_ | refine blk_alloc ?_ _)); exact BK232.out) hg (Kd.R_ne HO_a1.out BK232.out (by decide)))
               have n3_ := Aside0.mk (Kd.R_over' (by (with_reducible repeat (first | apply Kd.R_alloc | apply Kd.R_drewN | apply Kd.R_drew)); exact HO237.out) (Kd.R_typed (by (with_reducible repeat (first | apply Kd.R_alloc | apply Kd.R_drewN | apply Kd.R_drew)); exact HO_a1.out)) (by decide) hg)
               have n4_ := Aside0.mk (Kd.R_over' (by (with_reducible repeat (first | apply Kd.R_alloc | apply Kd.R_drewN | apply Kd.R_drew)); exact HO240.out) (Kd.R_typed (by (with_reducible repeat (first | apply Kd.R_alloc | apply Kd.R_drewN | apply Kd.R_drew)); exact HO_a1.out)) (by decide) hg)
               have n5_ := Aside0.mk (Kd.R_after (ok := (fun _ => True)) (by (with_reducible repeat (first | apply Kd.R_alloc | apply Kd.R_drewN | apply Kd.R_drew)); exact Kd.R_mono HO243.out (fun _ hk => ⟨trivial, hk⟩)) hg hat)
               have n6_ := Aside0.mk (hb)
               have n7_ := Aside0.mk (ho)
               clear BK225
               clear BK230
               clear BK232
               clear HO237
               clear HO240
               clear HO243
               clear HB
               clear HO_a1
               have BK225 := n0_
               have BK230 := n1_
               have BK232 := n2_
               have HO237 := n3_
               have HO240 := n4_
               have HO243 := n5_
               have HB := n6_
               have HO246 := n7_
               clear n0_ n1_ n2_ n3_ n4_ n5_ n6_ n7_
               clear ho hb hg hat
               obtain ⟨Ao114, co114, eo114⟩ := Kd.R_slice HO240.out
               (first | subst eo114 | (injection eo114 with f1_ f2_ f3_; have f4_ := f1_.symm; have f5_ := f3_.symm; clear f1_ f2_ f3_; subst f4_; subst f5_))
               obtain ⟨Ao116, co116, eo116⟩ := Kd.R_slice HO246.out
               (first | subst eo116 | (injection eo116 with f1_ f2_ f3_; have f4_ := f1_.symm; have f5_ := f3_.symm; clear f1_ f2_ f3_; subst f4_; subst f5_))
               refine hK.out _ _ ⟨(blk_cell BK230.out 0).trans rfl, (blk_cell BK230.out 1).trans rfl⟩ (fun hHeld => ?_)
               clear hK K
               refine norm_ (a' := ?_) ?_ ?_
               rotate_left
               ·show Act.put _ (some 125) _ = _
                simp only [Act.put, List.setIfInBounds_toArray, List.set_cons_zero, List.set_cons_succ, i64_w, i32_w]
                rfl
               refine last_ (i := 9) (N := none) #[true, true, true, true, true, true, true, true, true, true, false, false, false] rfl rfl (one_of HT_.out (by kernel_rfl)) (by decide) (fun K hK => ?_)
               have hs115 : w112.cell? ⟨gb230, 0, none⟩ = some (.slice Ao31 xa0_1.length co31) := (blk_cell BK230.out 0).trans rfl
               have hfs115 := blk_frozen BK230.out 0
               have hns115_0 := NB225_230.out
               have hns115_2 := NB232_230.out
               have hms115_0 := NB230_225.out
               have hms115_2 := NB230_232.out
               refine skip_ (w1 := ?_) (by rfl) rfl ?_ ?_
               rotate_left
               ·go_simp
                rfl
               refine hK.out _ _ ?_
               clear hK K
               refine pure_ (i := 10) (N := some 127) (v := ?_) (a' := ?_) #[true, true, true, true, true, true, true, true, true, true, true, false, false] rfl rfl (any_of HT_.out (by kernel_rfl)) (fun _ _ _ h => h) (Or.inl ⟨by rfl, ?_⟩) ?_ ?_
               rotate_left
               ·intro w'
                go_simp
                with_reducible rfl
               rotate_left
               ·simp only [Act.put, List.setIfInBounds_toArray, List.set_cons_zero, List.set_cons_succ, i64_w, i32_w]
                rfl
               refine last_ (i := 11) (N := none) #[true, true, true, true, true, true, true, true, true, true, true, true, false] rfl rfl (one_of HT_.out (by kernel_rfl)) (by decide) (fun K hK => ?_)
               have hs117 : w112.cell? ⟨gb230, 1, none⟩ = some (.slice Ao103 xa1_1.length co103) := (blk_cell BK230.out 1).trans rfl
               have hfs117 := blk_frozen BK230.out 1
               have hns117_0 := NB225_230.out
               have hns117_2 := NB232_230.out
               have hms117_0 := NB230_225.out
               have hms117_2 := NB230_232.out
               refine skip_ (w1 := ?_) (by rfl) rfl ?_ ?_
               rotate_left
               ·go_simp
                rfl
               refine hK.out _ _ ?_
               clear hK K
               refine pure_ (i := 12) (N := some 6) (v := ?_) (a' := ?_) #[true, true, true, true, true, true, true, true, true, true, true, true, true] rfl rfl (any_of HT_.out (by kernel_rfl)) (fun _ _ _ h => h) (Or.inl ⟨by rfl, ?_⟩) ?_ ?_
               rotate_left
               ·intro w'
                go_simp
                with_reducible rfl
               rotate_left
               ·simp only [Act.put, List.setIfInBounds_toArray, List.set_cons_zero, List.set_cons_succ, i64_w, i32_w]
                rfl
               refine done_ (done_of HT_.out (by kernel_rfl)) ?_
               try go_wp2
               go_roundg kj23
               case measure => have := HK1.out; have := HJ23.out; omega
               case rel => exact ⟨(false), (x7_1), (wrap64 (x19_1 + 1)), (y238), (y244), (.slice Ao114 y238.length co114), (.slice Ao116 y244.length co116), (by first | rfl | (simp; done) | (simp [*]; done)), (by first | rfl | (simp; done) | (simp [*]; done)), (by first | rfl | (simp; done) | (simp [*]; done)), H', ⟨by have := HK1.out; have := HJ23.out; omega⟩, ⟨by (with_reducible repeat (first | apply Kd.R_alloc | apply Kd.R_drewN | apply Kd.R_drew)); exact Kd.R_mono (Kd.R_far (p := ⟨gb230, 1, none⟩) (Kd.R_far (p := ⟨gb230, 0, none⟩) (Kd.R_types HO240.out BK230.out (by decide)) (fun _ hk => hk.2) (.slice Ao114 y238.length co114)) (fun _ hk => hk.2) (.slice Ao116 y244.length co116)) (fun _ hk => trivial)⟩, ⟨by (with_reducible repeat (first | apply Kd.R_alloc | apply Kd.R_drewN | apply Kd.R_drew)); exact Kd.R_mono (Kd.R_far (p := ⟨gb230, 1, none⟩) (Kd.R_far (p := ⟨gb230, 0, none⟩) (Kd.R_types HO246.out BK230.out (by decide)) (fun _ hk => hk.2) (.slice Ao114 y238.length co114)) (fun _ hk => hk.2) (.slice Ao116 y244.length co116)) (fun _ hk => trivial)⟩, ⟨by (with_reducible repeat (first | refine blk_drewN ?_ _ | refine blk_drew ?_ | refine blk_alloc ?_ _)); refine blk_far ?_ NB225_230.out _; (with_reducible repeat (first | refine blk_drewN ?_ _ | refine blk_drew ?_ | refine blk_alloc ?_ _)); refine blk_far ?_ NB225_230.out _; (with_reducible repeat (first | refine blk_drewN ?_ _ | refine blk_drew ?_ | refine blk_alloc ?_ _)); exact BK225.out⟩, ⟨by (with_reducible repeat (first | refine blk_drewN ?_ _ | refine blk_drew ?_ | refine blk_alloc ?_ _)); refine blk_put (cs := #[.slice Ao114 y238.length co114, .slice Ao103 xa1_1.length co103]) ?_ 1 _ rfl; (with_reducible repeat (first | refine blk_drewN ?_ _ | refine blk_drew ?_ | refine blk_alloc ?_ _)); refine blk_put (cs := #[.slice Ao31 xa0_1.length co31, .slice Ao103 xa1_1.length co103]) ?_ 0 _ rfl; (with_reducible repeat (first | refine blk_drewN ?_ _ | refine blk_drew ?_ | refine blk_alloc ?_ _)); exact BK230.out⟩, ⟨by repeat (first | (with_reducible first | exact HB.out | apply below_alloc | apply pw_below_drewN | apply below_drew1 | refine below_set ?_ GE225.out | refine below_set ?_ GE230.out | refine below_set ?_ GE232.out) | exact HB.out)⟩⟩
              ·rw [if_neg c99] at H
               exact absurd H (by simp)
             ·rw [if_neg c98] at H
              exact absurd H (by simp)
            ·rw [if_neg c97] at H
             have c97b0 : (x19_1 == 0) = false := beq_eq_false_iff_ne.mpr c97
             have c97b1 : (x19_1 != 0) = true := bne_iff_ne.mpr c97
             by_cases c118 : (x19_1 = (wrap64 ((l0.length : Int) - 1)))
             ·rw [if_pos c118] at H
              have c118b0 : (x19_1 == (wrap64 ((l0.length : Int) - 1))) = true := beq_iff_eq.mpr c118
              have c118b1 : (x19_1 != (wrap64 ((l0.length : Int) - 1))) = false := bne_eq_false_iff_eq.mpr c118
              clear c118
              obtain ⟨y247, hy247⟩ : ∃ y_ : List Int, y_ = (([46] : List Int)) := ⟨_, rfl⟩
              replace H : (if xa0_1.length + y247.length < 35184372088832 then ((some (([0] : List Int) : List Int)).bind fun y253 => (if xa1_1.length + y253.length < 140737488355328 then (pats_one.l0 kj23 l0 false false x7_1 l0 (l0.length : Int) (wrap64 (x19_1 + 1)) (xa0_1 ++ y247) (xa1_1 ++ y253)) else (none))) else (none)) = some (r1, r2, r3) := by first | (rw [hy247]; with_reducible exact H) | (have H2_ := (Option.bind_some _ _).symm.trans H; rw [hy247]; with_reducible exact H2_) | (have H2_ := (Option.bind_some _ _).symm.trans H; with_reducible exact H2_) | with_reducible exact H | (rw [hy247]; exact H) | exact H
              have Ny247 := Aside0.mk hy247
              clear hy247
              by_cases c119 : xa0_1.length + y247.length < 35184372088832
              ·rw [if_pos c119] at H
               have LMc119 := Aside0.mk c119
               clear c119
               obtain ⟨y250, hy250⟩ : ∃ y_ : List Int, y_ = (xa0_1 ++ y247) := ⟨_, rfl⟩
               replace H : ((some (([0] : List Int) : List Int)).bind fun y253 => (if xa1_1.length + y253.length < 140737488355328 then (pats_one.l0 kj23 l0 false false x7_1 l0 (l0.length : Int) (wrap64 (x19_1 + 1)) y250 (xa1_1 ++ y253)) else (none))) = some (r1, r2, r3) := by first | (rw [hy250]; with_reducible exact H) | (have H2_ := (Option.bind_some _ _).symm.trans H; rw [hy250]; with_reducible exact H2_) | (have H2_ := (Option.bind_some _ _).symm.trans H; with_reducible exact H2_) | with_reducible exact H | (rw [hy250]; exact H) | exact H
               have Ny250 := Aside0.mk hy250
               clear hy250
               obtain ⟨y253, hy253⟩ : ∃ y_ : List Int, y_ = (([0] : List Int)) := ⟨_, rfl⟩
               replace H : (if xa1_1.length + y253.length < 140737488355328 then (pats_one.l0 kj23 l0 false false x7_1 l0 (l0.length : Int) (wrap64 (x19_1 + 1)) y250 (xa1_1 ++ y253)) else (none)) = some (r1, r2, r3) := by first | (rw [hy253]; with_reducible exact H) | (have H2_ := (Option.bind_some _ _).symm.trans H; rw [hy253]; with_reducible exact H2_) | (have H2_ := (Option.bind_some _ _).symm.trans H; with_reducible exact H2_) | with_reducible exact H | (rw [hy253]; exact H) | exact H
               have Ny253 := Aside0.mk hy253
               clear hy253
               by_cases c120 : xa1_1.length + y253.length < 140737488355328
               ·rw [if_pos c120] at H
                have LMc120 := Aside0.mk c120
                clear c120
                obtain ⟨y256, hy256⟩ : ∃ y_ : List Int, y_ = (xa1_1 ++ y253) := ⟨_, rfl⟩
                replace H : (pats_one.l0 kj23 l0 false false x7_1 l0 (l0.length : Int) (wrap64 (x19_1 + 1)) y250 y256) = some (r1, r2, r3) := by first | (rw [hy256]; with_reducible exact H) | (have H2_ := (Option.bind_some _ _).symm.trans H; rw [hy256]; with_reducible exact H2_) | (have H2_ := (Option.bind_some _ _).symm.trans H; with_reducible exact H2_) | with_reducible exact H | (rw [hy256]; exact H) | exact H
                have Ny256 := Aside0.mk hy256
                clear hy256
                have H' := Aside0.mk H
                clear H
                have hnb121 := NB232_225.out
                have hnc121 := NB225_232.out
                have hnb122 := NB232_230.out
                have hnc122 := NB230_232.out
                have hcz123_0 : wc.cell? ⟨gb232, 0, none⟩ = some (.int .i32 ((rd_T66 l0 x19_1).f0)) := (blk_cell BK232.out 0).trans rfl
                have hcz123_1 : wc.cell? ⟨gb232, 1, none⟩ = some (.int .i64 ((rd_T66 l0 x19_1).f1)) := (blk_cell BK232.out 1).trans rfl
                have hcz123_2 : wc.cell? ⟨gb232, 2, none⟩ = some (.int .i64 ((rd_T66 l0 x19_1).f2)) := (blk_cell BK232.out 2).trans rfl
                have hfz123_0 := blk_frozen BK232.out 0
                have hfz123_1 := blk_frozen BK232.out 1
                have hfz123_2 := blk_frozen BK232.out 2
                obtain ⟨Ao124, co124, eo124⟩ := Kd.R_slice HO_a1.out
                subst eo124
                try go_wp2
                have n0_ := Aside0.mk (Kd.R_drew HO_a0.out)
                have n1_ := Aside0.mk (Kd.R_drew HO_a1.out)
                have n2_ := Aside0.mk (blk_drew BK225.out)
                have n3_ := Aside0.mk (blk_drew BK230.out)
                have n4_ := Aside0.mk (blk_drew BK232.out)
                have n5_ := Aside0.mk (below_drew1 HB.out)
                clear HO_a0
                clear HO_a1
                clear BK225
                clear BK230
                clear BK232
                clear HB
                have HO_a0 := n0_
                have HO_a1 := n1_
                have BK225 := n2_
                have BK230 := n3_
                have BK232 := n4_
                have HB := n5_
                clear n0_ n1_ n2_ n3_ n4_ n5_
                refine start_ (n := 13) (S := fun w' => w'.cell? ⟨gb230, 0, none⟩ = some (.slice Ao31 xa0_1.length co31) ∧ w'.cell? ⟨gb230, 1, none⟩ = some (.slice Ao124 xa1_1.length co124)) (ds := [9, 11]) #[false, false, false, false, false, false, false, false, false, false, false, false, false] (by kernel_rfl) rfl rfl ⟨(blk_cell BK230.out 0).trans rfl, (blk_cell BK230.out 1).trans rfl⟩ (fun hHeld => ?_); refine with_tabW pats_one.tab24 pats_one.bits24 (fun HT_ HW_ => ?_)
                generalize wc.drew = w125 at HO_a0 HO_a1 BK225 BK230 BK232 HB hHeld ⊢
                refine pure_ (i := 0) (N := some 118) (v := ?_) (a' := ?_) #[true, false, false, false, false, false, false, false, false, false, false, false, false] rfl rfl (any_of HT_.out (by kernel_rfl)) (fun _ _ _ h => h) (Or.inl ⟨by rfl, ?_⟩) ?_ ?_
                rotate_left
                ·intro w'
                 go_simp
                 with_reducible rfl
                rotate_left
                ·simp only [Act.put, List.setIfInBounds_toArray, List.set_cons_zero, List.set_cons_succ, i64_w, i32_w]
                 rfl
                refine pure_ (i := 4) (N := some 122) (v := ?_) (a' := ?_) #[true, false, false, false, true, false, false, false, false, false, false, false, false] rfl rfl (any_of HT_.out (by kernel_rfl)) (fun _ _ _ h => h) (Or.inl ⟨by rfl, ?_⟩) ?_ ?_
                rotate_left
                ·intro w'
                 go_simp
                 with_reducible rfl
                rotate_left
                ·simp only [Act.put, List.setIfInBounds_toArray, List.set_cons_zero, List.set_cons_succ, i64_w, i32_w]
                 rfl
                refine take_ (i := 1) (N := some 119) (v := ?_) (a' := ?_) #[true, true, false, false, true, false, false, false, false, false, false, false, false] rfl rfl (take_ofW HT_.out HW_.out (by kernel_rfl)) (fun _ _ _ h => h) (Or.inl ⟨by rfl, ?_⟩) hHeld ?_ ?_
                rotate_left
                ·rintro w' ⟨s0, s1⟩
                 go_simp
                 with_reducible rfl
                rotate_left
                ·simp only [Act.put, List.setIfInBounds_toArray, List.set_cons_zero, List.set_cons_succ, i64_w, i32_w]
                 rfl
                refine take_ (i := 5) (N := some 123) (v := ?_) (a' := ?_) #[true, true, false, false, true, true, false, false, false, false, false, false, false] rfl rfl (take_ofW HT_.out HW_.out (by kernel_rfl)) (fun _ _ _ h => h) (Or.inl ⟨by rfl, ?_⟩) hHeld ?_ ?_
                rotate_left
                ·rintro w' ⟨s0, s1⟩
                 go_simp
                 with_reducible rfl
                rotate_left
                ·simp only [Act.put, List.setIfInBounds_toArray, List.set_cons_zero, List.set_cons_succ, i64_w, i32_w]
                 rfl
                refine join_ (σ := Value × Value × Value) 5 #[true, true, true, true, true, true, true, false, true, false, false, false, false] (fun s_ => [(120, s_.1), (121, s_.2.1), (124, s_.2.2), (126, .pointer (some ⟨gb230, 0, none⟩))]) (fun s_ w' => (w'.cell? ⟨gb230, 0, none⟩ = some (.slice Ao31 xa0_1.length co31) ∧ w'.cell? ⟨gb230, 1, none⟩ = some (.slice Ao124 xa1_1.length co124)) ∧ (Kd.R (Kd.int .i32) 21 w' w.heap.size (fun k_ => some k_ ≠ (s_.2.1 : Value).ownBlock) s_.1 y247) ∧ (Kd.R (Kd.int .i32) 21 w' w.heap.size (fun k_ => some k_ ≠ (s_.1 : Value).ownBlock) s_.2.1 y250) ∧ (Kd.R (Kd.int .u8) 5 w' w.heap.size (fun k_ => some k_ ≠ (.slice Ao124 xa1_1.length co124 : Value).ownBlock) s_.2.2 y253) ∧ (Kd.R (Kd.int .u8) 5 w' w.heap.size (fun k_ => some k_ ≠ (s_.2.2 : Value).ownBlock) (.slice Ao124 xa1_1.length co124) xa1_1) ∧ (w'.heap[gb225]? = some (.cells #[.slice none 0 0, .slice none 0 0] 39 (0, 0))) ∧ (w'.heap[gb230]? = some (.cells #[.slice Ao31 xa0_1.length co31, .slice Ao124 xa1_1.length co124] 39 (0, 0))) ∧ (w'.heap[gb232]? = some (.cells #[.int .i32 ((rd_T66 l0 x19_1).f0), .int .i64 ((rd_T66 l0 x19_1).f1), .int .i64 ((rd_T66 l0 x19_1).f2)] 66 (0, 0))) ∧ (Below w.heap.size w w')) ?_ ?_
                rotate_left
                ·intro hCont
                 refine two_ (i := 2) (j := 6) (Ni := some 120) (Nj := some 124) #[true, true, true, false, true, true, false, false, false, false, false, false, false] #[true, true, false, false, true, true, true, false, false, false, false, false, false] rfl rfl rfl rfl (two_of HT_.out (by kernel_rfl)) (by decide) (by decide) (fun K hK => ?_) (fun K hK => ?_)
                 ·skip
                  refine Kd.R_lit_step (Kd.int .i32) _ 21 ?hg (N := 120) ?hd (xs := ([46] : List Int)) (inner := [.int .i32 46]) (ok := fun _ => True) (okp := fun _ => True) ?hr ?hp (fun _ hk => hk) trivial (Below.refl _ _) (Nat.le_refl _) (by simp) ?_; (case hd => rfl); (case hg => rfl); (case hr => first | (go_simp; done) | (go_simp; rfl)); (case hp => exact (Reps.one (show Kd.M (Kd.int .i32) _ _ _ 46 [.int .i32 46] from rfl) (Reps.none _ _)))
                  intro v248 w126 ho127 hb hg_ hnew_
                  clear hg_ hnew_
                  (first | rw [← Ny247.out] at ho127 | (simp only [Int.reduceToNat] at ho127; rw [← Ny247.out] at ho127))
                  have n0_ := Aside0.mk (Kd.R_elder' (by (with_reducible repeat (first | apply Kd.R_alloc | apply Kd.R_drewN | apply Kd.R_drew)); exact HO_a0.out) (Kd.R_base ho127) hb)
                  have n1_ := Aside0.mk (Kd.R_below (by (with_reducible repeat (first | apply Kd.R_alloc | apply Kd.R_drewN | apply Kd.R_drew)); exact HO_a1.out) hb)
                  have n2_ := Aside0.mk (Kd.R_lower (Kd.R_new' ho127 (Kd.R_lt (by (with_reducible repeat (first | apply Kd.R_alloc | apply Kd.R_drewN | apply Kd.R_drew)); exact HO_a0.out))) (below_size (by repeat (first | (with_reducible first | exact HB.out | apply below_alloc | apply pw_below_drewN | apply below_drew1 | refine below_set ?_ GE225.out | refine below_set ?_ GE230.out | refine below_set ?_ GE232.out) | exact HB.out))))
                  have n3_ := Aside0.mk (blk_below (g := gb225) (o := .cells #[.slice none 0 0, .slice none 0 0] 39 (0, 0)) (by (with_reducible repeat (first | refine blk_drewN ?_ _ | refine blk_drew ?_ | refine blk_alloc ?_ _)); exact BK225.out) hb)
                  have n4_ := Aside0.mk (blk_below (g := gb230) (o := .cells #[.slice Ao31 xa0_1.length co31, .slice Ao124 xa1_1.length co124] 39 (0, 0)) (by (with_reducible repeat (first | refine blk_drewN ?_ _ | refine blk_drew ?_ | refine blk_alloc ?_ _)); exact BK230.out) hb)
                  have n5_ := Aside0.mk (blk_below (g := gb232) (o := .cells #[.int .i32 ((rd_T66 l0 x19_1).f0), .int .i64 ((rd_T66 l0 x19_1).f1), .int .i64 ((rd_T66 l0 x19_1).f2)] 66 (0, 0)) (by (with_reducible repeat (first | refine blk_drewN ?_ _ | refine blk_drew ?_ | refine blk_alloc ?_ _)); exact BK232.out) hb)
                  have n6_ := Aside0.mk (below_step (by repeat (first | (with_reducible first | exact HB.out | apply below_alloc | apply pw_below_drewN | apply below_drew1 | refine below_set ?_ GE225.out | refine below_set ?_ GE230.out | refine below_set ?_ GE232.out) | exact HB.out)) hb)
                  clear HO_a0
                  clear HO_a1
                  clear BK225
                  clear BK230
                  clear BK232
                  clear HB
                  have HO_a0 := n0_
                  have HO_a1 := n1_
                  have HO249 := n2_
                  have BK225 := n3_
                  have BK230 := n4_
                  have BK232 := n5_
                  have HB := n6_
                  clear n0_ n1_ n2_ n3_ n4_ n5_ n6_
                  clear hb ho127
                  obtain ⟨Ao129, co129, eo129⟩ := Kd.R_slice HO249.out
                  (first | subst eo129 | (injection eo129 with f1_ f2_ f3_; have f4_ := f1_.symm; have f5_ := f3_.symm; clear f1_ f2_ f3_; subst f4_; subst f5_))
                  refine hK.out _ _ ⟨(blk_cell BK230.out 0).trans rfl, (blk_cell BK230.out 1).trans rfl⟩ (fun hHeld => ?_)
                  clear hK K
                  refine norm_ (a' := ?_) ?_ ?_
                  rotate_left
                  ·show Act.put _ (some 120) _ = _
                   simp only [Act.put, List.setIfInBounds_toArray, List.set_cons_zero, List.set_cons_succ, i64_w, i32_w]
                   rfl
                  refine two_ (i := 3) (j := 6) (Ni := some 121) (Nj := some 124) #[true, true, true, true, true, true, false, false, false, false, false, false, false] #[true, true, true, false, true, true, true, false, false, false, false, false, false] rfl rfl rfl rfl (two_of HT_.out (by kernel_rfl)) (by decide) (by decide) (fun K hK => ?_) (fun K hK => ?_)
                  ·skip
                   refine Kd.R_append_rows_step (Kd.int .i32) (w0 := w) w.heap.size (by rfl) (.tmp 119) (.tmp 120) 23 21 (.int .i32 0) 4 rfl Try.underlying23 info21 rfl (by decide) (by omega) (.slice Ao31 xa0_1.length co31) xa0_1 y247 _ _ _ (fun k_ => some k_ ≠ (.slice Ao129 y247.length co129 : Value).ownBlock) (fun _ => False) rfl rfl ?aO ?aR (fun _ _ h => h) (fun _ h => h.elim) ?aF ?aB ?aS ?aL ?_
                   (case aR => repeat (first | exact (Kd.R_reads' HO249.out).2.2 | (with_reducible refine Kd.C_alloc ?_ _) | (with_reducible refine Kd.C_drewN ?_ _) | (with_reducible refine Kd.C_drew ?_)))
                   (case aB => exact (by repeat (first | (with_reducible first | exact HB.out | apply below_alloc | apply pw_below_drewN | apply below_drew1 | refine below_set ?_ GE225.out | refine below_set ?_ GE230.out | refine below_set ?_ GE232.out) | exact HB.out)))
                   (case aF => exact (fun k_ hk => Kd.fresh' (Kd.R_lt (by (with_reducible repeat (first | apply Kd.R_alloc | apply Kd.R_drewN | apply Kd.R_drew)); exact HO249.out)) k_ hk))
                   (case aO => exact (by (with_reducible repeat (first | apply Kd.R_alloc | apply Kd.R_drewN | apply Kd.R_drew)); exact Kd.R_mono HO_a0.out (fun _ hk => hk.2)))
                   (case aS => exact (below_size (by repeat (first | (with_reducible first | exact HB.out | apply below_alloc | apply pw_below_drewN | apply below_drew1 | refine below_set ?_ GE225.out | refine below_set ?_ GE230.out | refine below_set ?_ GE232.out) | exact HB.out))))
                   (case aL => have := LMc119.out; omega)
                   intro v251 w128 ho hb hg hat
                   rw [← Ny250.out] at ho
                   have n0_ := Aside0.mk (Kd.R_over' (by (with_reducible repeat (first | apply Kd.R_alloc | apply Kd.R_drewN | apply Kd.R_drew)); exact HO_a1.out) (Kd.R_typed (by (with_reducible repeat (first | apply Kd.R_alloc | apply Kd.R_drewN | apply Kd.R_drew)); exact HO_a0.out)) (by decide) hg)
                   have n1_ := Aside0.mk (blk_grown (g := gb225) (o := .cells #[.slice none 0 0, .slice none 0 0] 39 (0, 0)) (by (with_reducible repeat (first | refine blk_drewN ?_ _ | refine blk_drew ?_ | refine blk_alloc ?_ _)); exact BK225.out) hg (Kd.R_ne HO_a0.out BK225.out (by decide)))
                   have n2_ := Aside0.mk (blk_grown (g := gb230) (o := .cells #[.slice Ao31 xa0_1.length co31, .slice Ao124 xa1_1.length co124] 39 (0, 0)) (by (with_reducible repeat (first | refine blk_drewN ?_ _ | refine blk_drew ?_ | refine blk_alloc ?_ _)); exact BK230.out) hg (Kd.R_ne HO_a0.out BK230.out (by decide)))
                   have n3_ := Aside0.mk (blk_grown (g := gb232) (o := .cells #[.int .i32 ((rd_T66 l0 x19_1).f0), .int .i64 ((rd_T66 l0 x19_1).f1), .int .i64 ((rd_T66 l0 x19_1).f2)] 66 (0, 0)) (by (with_reducible repeat (first | refine blk_drewN ?_ _ | refine blk_drew ?_ | refine blk_alloc ?_ _)); exact BK232.out) hg (Kd.R_ne HO_a0.out BK232.out (by decide)))
                   have n4_ := Aside0.mk (Kd.R_after (ok := (fun _ => True)) (by (with_reducible repeat (first | apply Kd.R_alloc | apply Kd.R_drewN | apply Kd.R_drew)); exact HO249.out) hg hat)
                   have n5_ := Aside0.mk (hb)
                   have n6_ := Aside0.mk (ho)
                   clear HO_a1
                   clear BK225
                   clear BK230
                   clear BK232
                   clear HO249
                   clear HB
                   clear HO_a0
                   have HO_a1 := n0_
                   have BK225 := n1_
                   have BK230 := n2_
                   have BK232 := n3_
                   have HO249 := n4_
                   have HB := n5_
                   have HO252 := n6_
                   clear n0_ n1_ n2_ n3_ n4_ n5_ n6_
                   clear ho hb hg hat
                   refine hK.out _ _ ⟨(blk_cell BK230.out 0).trans rfl, (blk_cell BK230.out 1).trans rfl⟩ (fun hHeld => ?_)
                   clear hK K
                   refine norm_ (a' := ?_) ?_ ?_
                   rotate_left
                   ·show Act.put _ (some 121) _ = _
                    simp only [Act.put, List.setIfInBounds_toArray, List.set_cons_zero, List.set_cons_succ, i64_w, i32_w]
                    rfl
                   refine pure_ (i := 8) (N := some 126) (v := ?_) (a' := ?_) #[true, true, true, true, true, true, false, false, true, false, false, false, false] rfl rfl (any_of HT_.out (by kernel_rfl)) (fun _ _ _ h => h) (Or.inl ⟨by rfl, ?_⟩) ?_ ?_
                   rotate_left
                   ·intro w'
                    go_simp
                    with_reducible rfl
                   rotate_left
                   ·simp only [Act.put, List.setIfInBounds_toArray, List.set_cons_zero, List.set_cons_succ, i64_w, i32_w]
                    rfl
                   refine one_ (i := 6) (N := some 124) #[true, true, true, true, true, true, true, false, true, false, false, false, false] rfl rfl (one_of HT_.out (by kernel_rfl)) (by decide) (fun K hK => ?_)
                   refine Kd.R_lit_step (Kd.int .u8) _ 5 ?hg (N := 124) ?hd (xs := ([0] : List Int)) (inner := [.int .u8 0]) (ok := fun _ => True) (okp := fun _ => True) ?hr ?hp (fun _ hk => hk) trivial (Below.refl _ _) (Nat.le_refl _) (by simp) ?_; (case hd => rfl); (case hg => rfl); (case hr => first | (go_simp; done) | (go_simp; rfl)); (case hp => exact (Reps.one (show Kd.M (Kd.int .u8) _ _ _ 0 [.int .u8 0] from rfl) (Reps.none _ _)))
                   intro v254 w130 ho131 hb hg_ hnew_
                   clear hg_ hnew_
                   (first | rw [← Ny253.out] at ho131 | (simp only [Int.reduceToNat] at ho131; rw [← Ny253.out] at ho131))
                   have n0_ := Aside0.mk (Kd.R_elder' (by (with_reducible repeat (first | apply Kd.R_alloc | apply Kd.R_drewN | apply Kd.R_drew)); exact HO_a1.out) (Kd.R_base ho131) hb)
                   have n1_ := Aside0.mk (Kd.R_below (by (with_reducible repeat (first | apply Kd.R_alloc | apply Kd.R_drewN | apply Kd.R_drew)); exact HO249.out) hb)
                   have n2_ := Aside0.mk (Kd.R_below (by (with_reducible repeat (first | apply Kd.R_alloc | apply Kd.R_drewN | apply Kd.R_drew)); exact HO252.out) hb)
                   have n3_ := Aside0.mk (Kd.R_lower (Kd.R_new' ho131 (Kd.R_lt (by (with_reducible repeat (first | apply Kd.R_alloc | apply Kd.R_drewN | apply Kd.R_drew)); exact HO_a1.out))) (below_size (by repeat (first | (with_reducible first | exact HB.out | apply below_alloc | apply pw_below_drewN | apply below_drew1 | refine below_set ?_ GE225.out | refine below_set ?_ GE230.out | refine below_set ?_ GE232.out) | exact HB.out))))
                   have n4_ := Aside0.mk (blk_below (g := gb225) (o := .cells #[.slice none 0 0, .slice none 0 0] 39 (0, 0)) (by (with_reducible repeat (first | refine blk_drewN ?_ _ | refine blk_drew ?_ | refine blk_alloc ?_ _)); exact BK225.out) hb)
                   have n5_ := Aside0.mk (blk_below (g := gb230) (o := .cells #[.slice Ao31 xa0_1.length co31, .slice Ao124 xa1_1.length co124] 39 (0, 0)) (by (with_reducible repeat (first | refine blk_drewN ?_ _ | refine blk_drew ?_ | refine blk_alloc ?_ _)); exact BK230.out) hb)
                   have n6_ := Aside0.mk (blk_below (g := gb232) (o := .cells #[.int .i32 ((rd_T66 l0 x19_1).f0), .int .i64 ((rd_T66 l0 x19_1).f1), .int .i64 ((rd_T66 l0 x19_1).f2)] 66 (0, 0)) (by (with_reducible repeat (first | refine blk_drewN ?_ _ | refine blk_drew ?_ | refine blk_alloc ?_ _)); exact BK232.out) hb)
                   have n7_ := Aside0.mk (below_step (by repeat (first | (with_reducible first | exact HB.out | apply below_alloc | apply pw_below_drewN | apply below_drew1 | refine below_set ?_ GE225.out | refine below_set ?_ GE230.out | refine below_set ?_ GE232.out) | exact HB.out)) hb)
                   clear HO_a1
                   clear HO249
                   clear HO252
                   clear BK225
                   clear BK230
                   clear BK232
                   clear HB
                   have HO_a1 := n0_
                   have HO249 := n1_
                   have HO252 := n2_
                   have HO255 := n3_
                   have BK225 := n4_
                   have BK230 := n5_
                   have BK232 := n6_
                   have HB := n7_
                   clear n0_ n1_ n2_ n3_ n4_ n5_ n6_ n7_
                   clear hb ho131
                   refine hK.out _ _ ⟨(blk_cell BK230.out 0).trans rfl, (blk_cell BK230.out 1).trans rfl⟩ (fun hHeld => ?_)
                   clear hK K
                   refine norm_ (a' := ?_) ?_ ?_
                   rotate_left
                   ·show Act.put _ (some 124) _ = _
                    simp only [Act.put, List.setIfInBounds_toArray, List.set_cons_zero, List.set_cons_succ, i64_w, i32_w]
                    rfl
                   exact norm_ (by simp only [putAll, Act.put, List.setIfInBounds_toArray, List.set_cons_zero, List.set_cons_succ]) (hCont (.slice Ao129 y247.length co129, v251, v254) _ ⟨hHeld, (by (with_reducible repeat (first | apply Kd.R_alloc | apply Kd.R_drewN | apply Kd.R_drew)); exact Kd.R_mono HO249.out (fun _ hk => hk.2)), (by (with_reducible repeat (first | apply Kd.R_alloc | apply Kd.R_drewN | apply Kd.R_drew)); exact HO252.out), (by (with_reducible repeat (first | apply Kd.R_alloc | apply Kd.R_drewN | apply Kd.R_drew)); exact Kd.R_mono HO255.out (fun _ hk => hk.2)), (by (with_reducible repeat (first | apply Kd.R_alloc | apply Kd.R_drewN | apply Kd.R_drew)); exact Kd.R_mono HO_a1.out (fun _ hk => hk.2)), (by (with_reducible repeat (first | refine blk_drewN ?_ _ | refine blk_drew ?_ | refine blk_alloc ?_ _)); exact BK225.out), (by (with_reducible repeat (first | refine blk_drewN ?_ _ | refine blk_drew ?_ | refine blk_alloc ?_ _)); exact BK230.out), (by (with_reducible repeat (first | refine blk_drewN ?_ _ | refine blk_drew ?_ | refine blk_alloc ?_ _)); exact BK232.out), (by repeat (first | (with_reducible first | exact HB.out | apply below_alloc | apply pw_below_drewN | apply below_drew1 | refine below_set ?_ GE225.out | refine below_set ?_ GE230.out | refine below_set ?_ GE232.out) | exact HB.out))⟩)
                  ·skip
                   refine Kd.R_lit_step (Kd.int .u8) _ 5 ?hg (N := 124) ?hd (xs := ([0] : List Int)) (inner := [.int .u8 0]) (ok := fun _ => True) (okp := fun _ => True) ?hr ?hp (fun _ hk => hk) trivial (Below.refl _ _) (Nat.le_refl _) (by simp) ?_; (case hd => rfl); (case hg => rfl); (case hr => first | (go_simp; done) | (go_simp; rfl)); (case hp => exact (Reps.one (show Kd.M (Kd.int .u8) _ _ _ 0 [.int .u8 0] from rfl) (Reps.none _ _)))
                   intro v254 w128 ho129 hb hg_ hnew_
                   clear hg_ hnew_
                   (first | rw [← Ny253.out] at ho129 | (simp only [Int.reduceToNat] at ho129; rw [← Ny253.out] at ho129))
                   have n0_ := Aside0.mk (Kd.R_below (by (with_reducible repeat (first | apply Kd.R_alloc | apply Kd.R_drewN | apply Kd.R_drew)); exact HO_a0.out) hb)
                   have n1_ := Aside0.mk (Kd.R_elder' (by (with_reducible repeat (first | apply Kd.R_alloc | apply Kd.R_drewN | apply Kd.R_drew)); exact HO_a1.out) (Kd.R_base ho129) hb)
                   have n2_ := Aside0.mk (Kd.R_below (by (with_reducible repeat (first | apply Kd.R_alloc | apply Kd.R_drewN | apply Kd.R_drew)); exact HO249.out) hb)
                   have n3_ := Aside0.mk (Kd.R_lower (Kd.R_new' ho129 (Kd.R_lt (by (with_reducible repeat (first | apply Kd.R_alloc | apply Kd.R_drewN | apply Kd.R_drew)); exact HO_a1.out))) (below_size (by repeat (first | (with_reducible first | exact HB.out | apply below_alloc | apply pw_below_drewN | apply below_drew1 | refine below_set ?_ GE225.out | refine below_set ?_ GE230.out | refine below_set ?_ GE232.out) | exact HB.out))))
                   have n4_ := Aside0.mk (blk_below (g := gb225) (o := .cells #[.slice none 0 0, .slice none 0 0] 39 (0, 0)) (by (with_reducible repeat (first | refine blk_drewN ?_ _ | refine blk_drew ?_ | refine blk_alloc ?_ _)); exact BK225.out) hb)
                   have n5_ := Aside0.mk (blk_below (g := gb230) (o := .cells #[.slice Ao31 xa0_1.length co31, .slice Ao124 xa1_1.length co124] 39 (0, 0)) (by (with_reducible repeat (first | refine blk_drewN ?_ _ | refine blk_drew ?_ | refine blk_alloc ?_ _)); exact BK230.out) hb)
                   have n6_ := Aside0.mk (blk_below (g := gb232) (o := .cells #[.int .i32 ((rd_T66 l0 x19_1).f0), .int .i64 ((rd_T66 l0 x19_1).f1), .int .i64 ((rd_T66 l0 x19_1).f2)] 66 (0, 0)) (by (with_reducible repeat (first | refine blk_drewN ?_ _ | refine blk_drew ?_ | refine blk_alloc ?_ _)); exact BK232.out) hb)
                   have n7_ := Aside0.mk (below_step (by repeat (first | (with_reducible first | exact HB.out | apply below_alloc | apply pw_below_drewN | apply below_drew1 | refine below_set ?_ GE225.out | refine below_set ?_ GE230.out | refine below_set ?_ GE232.out) | exact HB.out)) hb)
                   clear HO_a0
                   clear HO_a1
                   clear HO249
                   clear BK225
                   clear BK230
                   clear BK232
                   clear HB
                   have HO_a0 := n0_
                   have HO_a1 := n1_
                   have HO249 := n2_
                   have HO255 := n3_
                   have BK225 := n4_
                   have BK230 := n5_
                   have BK232 := n6_
                   have HB := n7_
                   clear n0_ n1_ n2_ n3_ n4_ n5_ n6_ n7_
                   clear hb ho129
                   obtain ⟨Ao131, co131, eo131⟩ := Kd.R_slice HO249.out
                   (first | subst eo131 | (injection eo131 with f1_ f2_ f3_; have f4_ := f1_.symm; have f5_ := f3_.symm; clear f1_ f2_ f3_; subst f4_; subst f5_))
                   refine hK.out _ _ ⟨(blk_cell BK230.out 0).trans rfl, (blk_cell BK230.out 1).trans rfl⟩ (fun hHeld => ?_)
                   clear hK K
                   refine norm_ (a' := ?_) ?_ ?_
                   rotate_left
                   ·show Act.put _ (some 124) _ = _
                    simp only [Act.put, List.setIfInBounds_toArray, List.set_cons_zero, List.set_cons_succ, i64_w, i32_w]
                    rfl
                   refine one_ (i := 3) (N := some 121) #[true, true, true, true, true, true, true, false, false, false, false, false, false] rfl rfl (one_of HT_.out (by kernel_rfl)) (by decide) (fun K hK => ?_)
                   refine Kd.R_append_rows_step (Kd.int .i32) (w0 := w) w.heap.size (by rfl) (.tmp 119) (.tmp 120) 23 21 (.int .i32 0) 4 rfl Try.underlying23 info21 rfl (by decide) (by omega) (.slice Ao31 xa0_1.length co31) xa0_1 y247 _ _ _ (fun k_ => some k_ ≠ (.slice Ao131 y247.length co131 : Value).ownBlock) (fun _ => False) rfl rfl ?aO ?aR (fun _ _ h => h) (fun _ h => h.elim) ?aF ?aB ?aS ?aL ?_
                   (case aR => repeat (first | exact (Kd.R_reads' HO249.out).2.2 | (with_reducible refine Kd.C_alloc ?_ _) | (with_reducible refine Kd.C_drewN ?_ _) | (with_reducible refine Kd.C_drew ?_)))
                   (case aB => exact (by repeat (first | (with_reducible first | exact HB.out | apply below_alloc | apply pw_below_drewN | apply below_drew1 | refine below_set ?_ GE225.out | refine below_set ?_ GE230.out | refine below_set ?_ GE232.out) | exact HB.out)))
                   (case aF => exact (fun k_ hk => Kd.fresh' (Kd.R_lt (by (with_reducible repeat (first | apply Kd.R_alloc | apply Kd.R_drewN | apply Kd.R_drew)); exact HO249.out)) k_ hk))
                   (case aO => exact (by (with_reducible repeat (first | apply Kd.R_alloc | apply Kd.R_drewN | apply Kd.R_drew)); exact Kd.R_mono HO_a0.out (fun _ hk => hk.2)))
                   (case aS => exact (below_size (by repeat (first | (with_reducible first | exact HB.out | apply below_alloc | apply pw_below_drewN | apply below_drew1 | refine below_set ?_ GE225.out | refine below_set ?_ GE230.out | refine below_set ?_ GE232.out) | exact HB.out))))
                   (case aL => have := LMc119.out; omega)
                   intro v251 w130 ho hb hg hat
                   rw [← Ny250.out] at ho
                   have n0_ := Aside0.mk (Kd.R_over' (by (with_reducible repeat (first | apply Kd.R_alloc | apply Kd.R_drewN | apply Kd.R_drew)); exact HO_a1.out) (Kd.R_typed (by (with_reducible repeat (first | apply Kd.R_alloc | apply Kd.R_drewN | apply Kd.R_drew)); exact HO_a0.out)) (by decide) hg)
                   have n1_ := Aside0.mk (blk_grown (g := gb225) (o := .cells #[.slice none 0 0, .slice none 0 0] 39 (0, 0)) (by (with_reducible repeat (first | refine blk_drewN ?_ _ | refine blk_drew ?_ | refine blk_alloc ?_ _)); exact BK225.out) hg (Kd.R_ne HO_a0.out BK225.out (by decide)))
                   have n2_ := Aside0.mk (blk_grown (g := gb230) (o := .cells #[.slice Ao31 xa0_1.length co31, .slice Ao124 xa1_1.length co124] 39 (0, 0)) (by (with_reducible repeat (first | refine blk_drewN ?_ _ | refine blk_drew ?_ | refine blk_alloc ?_ _)); exact BK230.out) hg (Kd.R_ne HO_a0.out BK230.out (by decide)))
                   have n3_ := Aside0.mk (blk_grown (g := gb232) (o := .cells #[.int .i32 ((rd_T66 l0 x19_1).f0), .int .i64 ((rd_T66 l0 x19_1).f1), .int .i64 ((rd_T66 l0 x19_1).f2)] 66 (0, 0)) (by (with_reducible repeat (first | refine blk_drewN ?_ _ | refine blk_drew ?_ | refine blk_alloc ?_ _)); exact BK232.out) hg (Kd.R_ne HO_a0.out BK232.out (by decide)))
                   have n4_ := Aside0.mk (Kd.R_after (ok := (fun _ => True)) (by (with_reducible repeat (first | apply Kd.R_alloc | apply Kd.R_drewN | apply Kd.R_drew)); exact HO249.out) hg hat)
                   have n5_ := Aside0.mk (Kd.R_over' (by (with_reducible repeat (first | apply Kd.R_alloc | apply Kd.R_drewN | apply Kd.R_drew)); exact HO255.out) (Kd.R_typed (by (with_reducible repeat (first | apply Kd.R_alloc | apply Kd.R_drewN | apply Kd.R_drew)); exact HO_a0.out)) (by decide) hg)
                   have n6_ := Aside0.mk (hb)
                   have n7_ := Aside0.mk (ho)
                   clear HO_a1
                   clear BK225
                   clear BK230
                   clear BK232
                   clear HO249
                   clear HO255
                   clear HB
                   clear HO_a0
                   have HO_a1 := n0_
                   have BK225 := n1_
                   have BK230 := n2_
                   have BK232 := n3_
                   have HO249 := n4_
                   have HO255 := n5_
                   have HB := n6_
                   have HO252 := n7_
                   clear n0_ n1_ n2_ n3_ n4_ n5_ n6_ n7_
                   clear ho hb hg hat
                   refine hK.out _ _ ⟨(blk_cell BK230.out 0).trans rfl, (blk_cell BK230.out 1).trans rfl⟩ (fun hHeld => ?_)
                   clear hK K
                   refine norm_ (a' := ?_) ?_ ?_
                   rotate_left
                   ·show Act.put _ (some 121) _ = _
                    simp only [Act.put, List.setIfInBounds_toArray, List.set_cons_zero, List.set_cons_succ, i64_w, i32_w]
                    rfl
                   refine pure_ (i := 8) (N := some 126) (v := ?_) (a' := ?_) #[true, true, true, true, true, true, true, false, true, false, false, false, false] rfl rfl (any_of HT_.out (by kernel_rfl)) (fun _ _ _ h => h) (Or.inl ⟨by rfl, ?_⟩) ?_ ?_
                   rotate_left
                   ·intro w'
                    go_simp
                    with_reducible rfl
                   rotate_left
                   ·simp only [Act.put, List.setIfInBounds_toArray, List.set_cons_zero, List.set_cons_succ, i64_w, i32_w]
                    rfl
                   exact norm_ (by simp only [putAll, Act.put, List.setIfInBounds_toArray, List.set_cons_zero, List.set_cons_succ]) (hCont (.slice Ao131 y247.length co131, v251, v254) _ ⟨hHeld, (by (with_reducible repeat (first | apply Kd.R_alloc | apply Kd.R_drewN | apply Kd.R_drew)); exact Kd.R_mono HO249.out (fun _ hk => hk.2)), (by (with_reducible repeat (first | apply Kd.R_alloc | apply Kd.R_drewN | apply Kd.R_drew)); exact HO252.out), (by (with_reducible repeat (first | apply Kd.R_alloc | apply Kd.R_drewN | apply Kd.R_drew)); exact Kd.R_mono HO255.out (fun _ hk => hk.2)), (by (with_reducible repeat (first | apply Kd.R_alloc | apply Kd.R_drewN | apply Kd.R_drew)); exact Kd.R_mono HO_a1.out (fun _ hk => hk.2)), (by (with_reducible repeat (first | refine blk_drewN ?_ _ | refine blk_drew ?_ | refine blk_alloc ?_ _)); exact BK225.out), (by (with_reducible repeat (first | refine blk_drewN ?_ _ | refine blk_drew ?_ | refine blk_alloc ?_ _)); exact BK230.out), (by (with_reducible repeat (first | refine blk_drewN ?_ _ | refine blk_drew ?_ | refine blk_alloc ?_ _)); exact BK232.out), (by repeat (first | (with_reducible first | exact HB.out | apply below_alloc | apply pw_below_drewN | apply below_drew1 | refine below_set ?_ GE225.out | refine below_set ?_ GE230.out | refine below_set ?_ GE232.out) | exact HB.out))⟩)
                 ·skip
                  refine Kd.R_lit_step (Kd.int .u8) _ 5 ?hg (N := 124) ?hd (xs := ([0] : List Int)) (inner := [.int .u8 0]) (ok := fun _ => True) (okp := fun _ => True) ?hr ?hp (fun _ hk => hk) trivial (Below.refl _ _) (Nat.le_refl _) (by simp) ?_; (case hd => rfl); (case hg => rfl); (case hr => first | (go_simp; done) | (go_simp; rfl)); (case hp => exact (Reps.one (show Kd.M (Kd.int .u8) _ _ _ 0 [.int .u8 0] from rfl) (Reps.none _ _)))
                  intro v254 w126 ho127 hb hg_ hnew_
                  clear hg_ hnew_
                  (first | rw [← Ny253.out] at ho127 | (simp only [Int.reduceToNat] at ho127; rw [← Ny253.out] at ho127))
                  have n0_ := Aside0.mk (Kd.R_below (by (with_reducible repeat (first | apply Kd.R_alloc | apply Kd.R_drewN | apply Kd.R_drew)); exact HO_a0.out) hb)
                  have n1_ := Aside0.mk (Kd.R_elder' (by (with_reducible repeat (first | apply Kd.R_alloc | apply Kd.R_drewN | apply Kd.R_drew)); exact HO_a1.out) (Kd.R_base ho127) hb)
                  have n2_ := Aside0.mk (Kd.R_lower (Kd.R_new' ho127 (Kd.R_lt (by (with_reducible repeat (first | apply Kd.R_alloc | apply Kd.R_drewN | apply Kd.R_drew)); exact HO_a1.out))) (below_size (by repeat (first | (with_reducible first | exact HB.out | apply below_alloc | apply pw_below_drewN | apply below_drew1 | refine below_set ?_ GE225.out | refine below_set ?_ GE230.out | refine below_set ?_ GE232.out) | exact HB.out))))
                  have n3_ := Aside0.mk (blk_below (g := gb225) (o := .cells #[.slice none 0 0, .slice none 0 0] 39 (0, 0)) (by (with_reducible repeat (first | refine blk_drewN ?_ _ | refine blk_drew ?_ | refine blk_alloc ?_ _)); exact BK225.out) hb)
                  have n4_ := Aside0.mk (blk_below (g := gb230) (o := .cells #[.slice Ao31 xa0_1.length co31, .slice Ao124 xa1_1.length co124] 39 (0, 0)) (by (with_reducible repeat (first | refine blk_drewN ?_ _ | refine blk_drew ?_ | refine blk_alloc ?_ _)); exact BK230.out) hb)
                  have n5_ := Aside0.mk (blk_below (g := gb232) (o := .cells #[.int .i32 ((rd_T66 l0 x19_1).f0), .int .i64 ((rd_T66 l0 x19_1).f1), .int .i64 ((rd_T66 l0 x19_1).f2)] 66 (0, 0)) (by (with_reducible repeat (first | refine blk_drewN ?_ _ | refine blk_drew ?_ | refine blk_alloc ?_ _)); exact BK232.out) hb)
                  have n6_ := Aside0.mk (below_step (by repeat (first | (with_reducible first | exact HB.out | apply below_alloc | apply pw_below_drewN | apply below_drew1 | refine below_set ?_ GE225.out | refine below_set ?_ GE230.out | refine below_set ?_ GE232.out) | exact HB.out)) hb)
                  clear HO_a0
                  clear HO_a1
                  clear BK225
                  clear BK230
                  clear BK232
                  clear HB
                  have HO_a0 := n0_
                  have HO_a1 := n1_
                  have HO255 := n2_
                  have BK225 := n3_
                  have BK230 := n4_
                  have BK232 := n5_
                  have HB := n6_
                  clear n0_ n1_ n2_ n3_ n4_ n5_ n6_
                  clear hb ho127
                  refine hK.out _ _ ⟨(blk_cell BK230.out 0).trans rfl, (blk_cell BK230.out 1).trans rfl⟩ (fun hHeld => ?_)
                  clear hK K
                  refine norm_ (a' := ?_) ?_ ?_
                  rotate_left
                  ·show Act.put _ (some 124) _ = _
                   simp only [Act.put, List.setIfInBounds_toArray, List.set_cons_zero, List.set_cons_succ, i64_w, i32_w]
                   rfl
                  refine one_ (i := 2) (N := some 120) #[true, true, true, false, true, true, true, false, false, false, false, false, false] rfl rfl (one_of HT_.out (by kernel_rfl)) (by decide) (fun K hK => ?_)
                  refine Kd.R_lit_step (Kd.int .i32) _ 21 ?hg (N := 120) ?hd (xs := ([46] : List Int)) (inner := [.int .i32 46]) (ok := fun _ => True) (okp := fun _ => True) ?hr ?hp (fun _ hk => hk) trivial (Below.refl _ _) (Nat.le_refl _) (by simp) ?_; (case hd => rfl); (case hg => rfl); (case hr => first | (go_simp; done) | (go_simp; rfl)); (case hp => exact (Reps.one (show Kd.M (Kd.int .i32) _ _ _ 46 [.int .i32 46] from rfl) (Reps.none _ _)))
                  intro v248 w128 ho129 hb hg_ hnew_
                  clear hg_ hnew_
                  (first | rw [← Ny247.out] at ho129 | (simp only [Int.reduceToNat] at ho129; rw [← Ny247.out] at ho129))
                  have n0_ := Aside0.mk (Kd.R_elder' (by (with_reducible repeat (first | apply Kd.R_alloc | apply Kd.R_drewN | apply Kd.R_drew)); exact HO_a0.out) (Kd.R_base ho129) hb)
                  have n1_ := Aside0.mk (Kd.R_below (by (with_reducible repeat (first | apply Kd.R_alloc | apply Kd.R_drewN | apply Kd.R_drew)); exact HO_a1.out) hb)
                  have n2_ := Aside0.mk (Kd.R_below (by (with_reducible repeat (first | apply Kd.R_alloc | apply Kd.R_drewN | apply Kd.R_drew)); exact HO255.out) hb)
                  have n3_ := Aside0.mk (Kd.R_lower (Kd.R_new' ho129 (Kd.R_lt (by (with_reducible repeat (first | apply Kd.R_alloc | apply Kd.R_drewN | apply Kd.R_drew)); exact HO_a0.out))) (below_size (by repeat (first | (with_reducible first | exact HB.out | apply below_alloc | apply pw_below_drewN | apply below_drew1 | refine below_set ?_ GE225.out | refine below_set ?_ GE230.out | refine below_set ?_ GE232.out) | exact HB.out))))
                  have n4_ := Aside0.mk (blk_below (g := gb225) (o := .cells #[.slice none 0 0, .slice none 0 0] 39 (0, 0)) (by (with_reducible repeat (first | refine blk_drewN ?_ _ | refine blk_drew ?_ | refine blk_alloc ?_ _)); exact BK225.out) hb)
                  have n5_ := Aside0.mk (blk_below (g := gb230) (o := .cells #[.slice Ao31 xa0_1.length co31, .slice Ao124 xa1_1.length co124] 39 (0, 0)) (by (with_reducible repeat (first | refine blk_drewN ?_ _ | refine blk_drew ?_ | refine blk_alloc ?_ _)); exact BK230.out) hb)
                  have n6_ := Aside0.mk (blk_below (g := gb232) (o := .cells #[.int .i32 ((rd_T66 l0 x19_1).f0), .int .i64 ((rd_T66 l0 x19_1).f1), .int .i64 ((rd_T66 l0 x19_1).f2)] 66 (0, 0)) (by (with_reducible repeat (first | refine blk_drewN ?_ _ | refine blk_drew ?_ | refine blk_alloc ?_ _)); exact BK232.out) hb)
                  have n7_ := Aside0.mk (below_step (by repeat (first | (with_reducible first | exact HB.out | apply below_alloc | apply pw_below_drewN | apply below_drew1 | refine below_set ?_ GE225.out | refine below_set ?_ GE230.out | refine below_set ?_ GE232.out) | exact HB.out)) hb)
                  clear HO_a0
                  clear HO_a1
                  clear HO255
                  clear BK225
                  clear BK230
                  clear BK232
                  clear HB
                  have HO_a0 := n0_
                  have HO_a1 := n1_
                  have HO255 := n2_
                  have HO249 := n3_
                  have BK225 := n4_
                  have BK230 := n5_
                  have BK232 := n6_
                  have HB := n7_
                  clear n0_ n1_ n2_ n3_ n4_ n5_ n6_ n7_
                  clear hb ho129
                  obtain ⟨Ao131, co131, eo131⟩ := Kd.R_slice HO249.out
                  (first | subst eo131 | (injection eo131 with f1_ f2_ f3_; have f4_ := f1_.symm; have f5_ := f3_.symm; clear f1_ f2_ f3_; subst f4_; subst f5_))
                  refine hK.out _ _ ⟨(blk_cell BK230.out 0).trans rfl, (blk_cell BK230.out 1).trans rfl⟩ (fun hHeld => ?_)
                  clear hK K
                  refine norm_ (a' := ?_) ?_ ?_
                  rotate_left
                  ·show Act.put _ (some 120) _ = _
                   simp only [Act.put, List.setIfInBounds_toArray, List.set_cons_zero, List.set_cons_succ, i64_w, i32_w]
                   rfl
                  refine one_ (i := 3) (N := some 121) #[true, true, true, true, true, true, true, false, false, false, false, false, false] rfl rfl (one_of HT_.out (by kernel_rfl)) (by decide) (fun K hK => ?_)
                  refine Kd.R_append_rows_step (Kd.int .i32) (w0 := w) w.heap.size (by rfl) (.tmp 119) (.tmp 120) 23 21 (.int .i32 0) 4 rfl Try.underlying23 info21 rfl (by decide) (by omega) (.slice Ao31 xa0_1.length co31) xa0_1 y247 _ _ _ (fun k_ => some k_ ≠ (.slice Ao131 y247.length co131 : Value).ownBlock) (fun _ => False) rfl rfl ?aO ?aR (fun _ _ h => h) (fun _ h => h.elim) ?aF ?aB ?aS ?aL ?_
                  (case aR => repeat (first | exact (Kd.R_reads' HO249.out).2.2 | (with_reducible refine Kd.C_alloc ?_ _) | (with_reducible refine Kd.C_drewN ?_ _) | (with_reducible refine Kd.C_drew ?_)))
                  (case aB => exact (by repeat (first | (with_reducible first | exact HB.out | apply below_alloc | apply pw_below_drewN | apply below_drew1 | refine below_set ?_ GE225.out | refine below_set ?_ GE230.out | refine below_set ?_ GE232.out) | exact HB.out)))
                  (case aF => exact (fun k_ hk => Kd.fresh' (Kd.R_lt (by (with_reducible repeat (first | apply Kd.R_alloc | apply Kd.R_drewN | apply Kd.R_drew)); exact HO249.out)) k_ hk))
                  (case aO => exact (by (with_reducible repeat (first | apply Kd.R_alloc | apply Kd.R_drewN | apply Kd.R_drew)); exact Kd.R_mono HO_a0.out (fun _ hk => hk.2)))
                  (case aS => exact (below_size (by repeat (first | (with_reducible first | exact HB.out | apply below_alloc | apply pw_below_drewN | apply below_drew1 | refine below_set ?_ GE225.out | refine below_set ?_ GE230.out | refine below_set ?_ GE232.out) | exact HB.out))))
                  (case aL => have := LMc119.out; omega)
                  intro v251 w130 ho hb hg hat
                  rw [← Ny250.out] at ho
                  have n0_ := Aside0.mk (Kd.R_over' (by (with_reducible repeat (first | apply Kd.R_alloc | apply Kd.R_drewN | apply Kd.R_drew)); exact HO_a1.out) (Kd.R_typed (by (with_reducible repeat (first | apply Kd.R_alloc | apply Kd.R_drewN | apply Kd.R_drew)); exact HO_a0.out)) (by decide) hg)
                  have n1_ := Aside0.mk (blk_grown (g := gb225) (o := .cells #[.slice none 0 0, .slice none 0 0] 39 (0, 0)) (by (with_reducible repeat (first | refine blk_drewN ?_ _ | refine blk_drew ?_ | refine blk_alloc ?_ _)); exact BK225.out) hg (Kd.R_ne HO_a0.out BK225.out (by decide)))
                  have n2_ := Aside0.mk (blk_grown (g := gb230) (o := .cells #[.slice Ao31 xa0_1.length co31, .slice Ao124 xa1_1.length co124] 39 (0, 0)) (by (with_reducible repeat (first | refine blk_drewN ?_ _ | refine blk_drew ?_ | refine blk_alloc ?_ _)); exact BK230.out) hg (Kd.R_ne HO_a0.out BK230.out (by decide)))
                  have n3_ := Aside0.mk (blk_grown (g := gb232) (o := .cells #[.int .i32 ((rd_T66 l0 x19_1).f0), .int .i64 ((rd_T66 l0 x19_1).f1), .int .i64 ((rd_T66 l0 x19_1).f2)] 66 (0, 0)) (by (with_reducible repeat (first | refine blk_drewN ?_ _ | refine blk_drew ?_ | refine blk_alloc ?_ _)); exact BK232.out) hg (Kd.R_ne HO_a0.out BK232.out (by decide)))
                  have n4_ := Aside0.mk (Kd.R_over' (by (with_reducible repeat (first | apply Kd.R_alloc | apply Kd.R_drewN | apply Kd.R_drew)); exact HO255.out) (Kd.R_typed (by (with_reducible repeat (first | apply Kd.R_alloc | apply Kd.R_drewN | apply Kd.R_drew)); exact HO_a0.out)) (by decide) hg)
                  have n5_ := Aside0.mk (Kd.R_after (ok := (fun _ => True)) (by (with_reducible repeat (first | apply Kd.R_alloc | apply Kd.R_drewN | apply Kd.R_drew)); exact HO249.out) hg hat)
                  have n6_ := Aside0.mk (hb)
                  have n7_ := Aside0.mk (ho)
                  clear HO_a1
                  clear BK225
                  clear BK230
                  clear BK232
                  clear HO255
                  clear HO249
                  clear HB
                  clear HO_a0
                  have HO_a1 := n0_
                  have BK225 := n1_
                  have BK230 := n2_
                  have BK232 := n3_
                  have HO255 := n4_
                  have HO249 := n5_
                  have HB := n6_
                  have HO252 := n7_
                  clear n0_ n1_ n2_ n3_ n4_ n5_ n6_ n7_
                  clear ho hb hg hat
                  refine hK.out _ _ ⟨(blk_cell BK230.out 0).trans rfl, (blk_cell BK230.out 1).trans rfl⟩ (fun hHeld => ?_)
                  clear hK K
                  refine norm_ (a' := ?_) ?_ ?_
                  rotate_left
                  ·show Act.put _ (some 121) _ = _
                   simp only [Act.put, List.setIfInBounds_toArray, List.set_cons_zero, List.set_cons_succ, i64_w, i32_w]
                   rfl
                  refine pure_ (i := 8) (N := some 126) (v := ?_) (a' := ?_) #[true, true, true, true, true, true, true, false, true, false, false, false, false] rfl rfl (any_of HT_.out (by kernel_rfl)) (fun _ _ _ h => h) (Or.inl ⟨by rfl, ?_⟩) ?_ ?_
                  rotate_left
                  ·intro w'
                   go_simp
                   with_reducible rfl
                  rotate_left
                  ·simp only [Act.put, List.setIfInBounds_toArray, List.set_cons_zero, List.set_cons_succ, i64_w, i32_w]
                   rfl
                  exact norm_ (by simp only [putAll, Act.put, List.setIfInBounds_toArray, List.set_cons_zero, List.set_cons_succ]) (hCont (.slice Ao131 y247.length co131, v251, v254) _ ⟨hHeld, (by (with_reducible repeat (first | apply Kd.R_alloc | apply Kd.R_drewN | apply Kd.R_drew)); exact Kd.R_mono HO249.out (fun _ hk => hk.2)), (by (with_reducible repeat (first | apply Kd.R_alloc | apply Kd.R_drewN | apply Kd.R_drew)); exact HO252.out), (by (with_reducible repeat (first | apply Kd.R_alloc | apply Kd.R_drewN | apply Kd.R_drew)); exact Kd.R_mono HO255.out (fun _ hk => hk.2)), (by (with_reducible repeat (first | apply Kd.R_alloc | apply Kd.R_drewN | apply Kd.R_drew)); exact Kd.R_mono HO_a1.out (fun _ hk => hk.2)), (by (with_reducible repeat (first | refine blk_drewN ?_ _ | refine blk_drew ?_ | refine blk_alloc ?_ _)); exact BK225.out), (by (with_reducible repeat (first | refine blk_drewN ?_ _ | refine blk_drew ?_ | refine blk_alloc ?_ _)); exact BK230.out), (by (with_reducible repeat (first | refine blk_drewN ?_ _ | refine blk_drew ?_ | refine blk_alloc ?_ _)); exact BK232.out), (by repeat (first | (with_reducible first | exact HB.out | apply below_alloc | apply pw_below_drewN | apply below_drew1 | refine below_set ?_ GE225.out | refine below_set ?_ GE230.out | refine below_set ?_ GE232.out) | exact HB.out))⟩)
                rintro ⟨v248, v251, v254⟩ w132 ⟨hS_, h0_, h1_, h2_, h3_, h4_, h5_, h6_, h7_⟩
                have n0_ : Aside0 (Kd.R (Kd.int .i32) 21 w132 w.heap.size (fun k_ => some k_ ≠ (v251 : Value).ownBlock) v248 y247) := ⟨h0_⟩
                have n1_ : Aside0 (Kd.R (Kd.int .i32) 21 w132 w.heap.size (fun k_ => some k_ ≠ (v248 : Value).ownBlock) v251 y250) := ⟨h1_⟩
                have n2_ : Aside0 (Kd.R (Kd.int .u8) 5 w132 w.heap.size (fun k_ => some k_ ≠ (.slice Ao124 xa1_1.length co124 : Value).ownBlock) v254 y253) := ⟨h2_⟩
                have n3_ : Aside0 (Kd.R (Kd.int .u8) 5 w132 w.heap.size (fun k_ => some k_ ≠ (v254 : Value).ownBlock) (.slice Ao124 xa1_1.length co124) xa1_1) := ⟨h3_⟩
                have n4_ : Aside0 (w132.heap[gb225]? = some (.cells #[.slice none 0 0, .slice none 0 0] 39 (0, 0))) := ⟨h4_⟩
                have n5_ : Aside0 (w132.heap[gb230]? = some (.cells #[.slice Ao31 xa0_1.length co31, .slice Ao124 xa1_1.length co124] 39 (0, 0))) := ⟨h5_⟩
                have n6_ : Aside0 (w132.heap[gb232]? = some (.cells #[.int .i32 ((rd_T66 l0 x19_1).f0), .int .i64 ((rd_T66 l0 x19_1).f1), .int .i64 ((rd_T66 l0 x19_1).f2)] 66 (0, 0))) := ⟨h6_⟩
                have n7_ : Aside0 (Below w.heap.size w w132) := ⟨h7_⟩
                clear HO_a0
                clear HO_a1
                clear BK225
                clear BK230
                clear BK232
                clear HB
                clear h0_ h1_ h2_ h3_ h4_ h5_ h6_ h7_
                have HO249 := n0_
                have HO252 := n1_
                have HO255 := n2_
                have HO_a1 := n3_
                have BK225 := n4_
                have BK230 := n5_
                have BK232 := n6_
                have HB := n7_
                clear n0_ n1_ n2_ n3_ n4_ n5_ n6_ n7_
                have hHeld : w132.cell? ⟨gb230, 0, none⟩ = some (.slice Ao31 xa0_1.length co31) ∧ w132.cell? ⟨gb230, 1, none⟩ = some (.slice Ao124 xa1_1.length co124) := hS_
                obtain ⟨Ao134, co134, eo134⟩ := Kd.R_slice HO255.out
                (first | subst eo134 | (injection eo134 with f1_ f2_ f3_; have f4_ := f1_.symm; have f5_ := f3_.symm; clear f1_ f2_ f3_; subst f4_; subst f5_))
                refine norm_ (a' := ?_) ?_ ?_
                rotate_left
                ·simp only [putAll, Act.put, List.setIfInBounds_toArray, List.set_cons_zero, List.set_cons_succ]
                 rfl
                refine one_ (i := 7) (N := some 125) #[true, true, true, true, true, true, true, true, true, false, false, false, false] rfl rfl (one_of HT_.out (by kernel_rfl)) (by decide) (fun K hK => ?_)
                refine Kd.R_append_rows_step (Kd.int .u8) (w0 := w) w.heap.size (by rfl) (.tmp 123) (.tmp 124) 27 5 (.int .u8 0) 1 rfl Try.underlying27 info5 rfl (by decide) (by omega) (.slice Ao124 xa1_1.length co124) xa1_1 y253 _ _ _ (fun k_ => some k_ ≠ (.slice Ao134 y253.length co134 : Value).ownBlock) (fun _ => False) rfl rfl ?aO ?aR (fun _ _ h => h) (fun _ h => h.elim) ?aF ?aB ?aS ?aL ?_
                (case aR => repeat (first | exact (Kd.R_reads' HO255.out).2.2 | (with_reducible refine Kd.C_alloc ?_ _) | (with_reducible refine Kd.C_drewN ?_ _) | (with_reducible refine Kd.C_drew ?_)))
                (case aB => exact (by repeat (first | (with_reducible first | exact HB.out | apply below_alloc | apply pw_below_drewN | apply below_drew1 | refine below_set ?_ GE225.out | refine below_set ?_ GE230.out | refine below_set ?_ GE232.out) | exact HB.out)))
                (case aF => exact (fun k_ hk => Kd.fresh' (Kd.R_lt (by (with_reducible repeat (first | apply Kd.R_alloc | apply Kd.R_drewN | apply Kd.R_drew)); exact HO255.out)) k_ hk))
                (case aO => exact (by (with_reducible repeat (first | apply Kd.R_alloc | apply Kd.R_drewN | apply Kd.R_drew)); exact HO_a1.out))
                (case aS => exact (below_size (by repeat (first | (with_reducible first | exact HB.out | apply below_alloc | apply pw_below_drewN | apply below_drew1 | refine below_set ?_ GE225.out | refine below_set ?_ GE230.out | refine below_set ?_ GE232.out) | exact HB.out))))
                (case aL => have := LMc120.out; omega)
                intro v257 w133 ho hb hg hat
                rw [← Ny256.out] at ho
                have n0_ := Aside0.mk (blk_grown (g := gb225) (o := .cells #[.slice none 0 0, .slice none 0 0] 39 (0, 0)) (by (with_reducible repeat (first | refine blk_drewN ?_ _ | refine blk_drew ?_ | refine blk_alloc ?_ _)); exact BK225.out) hg (Kd.R_ne HO_a1.out BK225.out (by decide)))
                have n1_ := Aside0.mk (blk_grown (g := gb230) (o := .cells #[.slice Ao31 xa0_1.length co31, .slice Ao124 xa1_1.length co124] 39 (0, 0)) (by (with_reducible repeat (first | refine blk_drewN ?_ _ | refine blk_drew ?_ | refine blk_alloc ?_ _)); exact BK230.out) hg (Kd.R_ne HO_a1.out BK230.out (by decide)))
                have n2_ := Aside0.mk (blk_grown (g := gb232) (o := .cells #[.int .i32 ((rd_T66 l0 x19_1).f0), .int .i64 ((rd_T66 l0 x19_1).f1), .int .i64 ((rd_T66 l0 x19_1).f2)] 66 (0, 0)) (by (with_reducible repeat (first | refine blk_drewN ?_ _ | refine blk_drew ?_ | refine blk_alloc ?_ _)); exact BK232.out) hg (Kd.R_ne HO_a1.out BK232.out (by decide)))
                have n3_ := Aside0.mk (Kd.R_over' (by (with_reducible repeat (first | apply Kd.R_alloc | apply Kd.R_drewN | apply Kd.R_drew)); exact HO249.out) (Kd.R_typed (by (with_reducible repeat (first | apply Kd.R_alloc | apply Kd.R_drewN | apply Kd.R_drew)); exact HO_a1.out)) (by decide) hg)
                have n4_ := Aside0.mk (Kd.R_over' (by (with_reducible repeat (first | apply Kd.R_alloc | apply Kd.R_drewN | apply Kd.R_drew)); exact HO252.out) (Kd.R_typed (by (with_reducible repeat (first | apply Kd.R_alloc | apply Kd.R_drewN | apply Kd.R_drew)); exact HO_a1.out)) (by decide) hg)
                have n5_ := Aside0.mk (Kd.R_after (ok := (fun _ => True)) (by (with_reducible repeat (first | apply Kd.R_alloc | apply Kd.R_drewN | apply Kd.R_drew)); exact Kd.R_mono HO255.out (fun _ hk => ⟨trivial, hk⟩)) hg hat)
                have n6_ := Aside0.mk (hb)
                have n7_ := Aside0.mk (ho)
                clear BK225
                clear BK230
                clear BK232
                clear HO249
                clear HO252
                clear HO255
                clear HB
                clear HO_a1
                have BK225 := n0_
                have BK230 := n1_
                have BK232 := n2_
                have HO249 := n3_
                have HO252 := n4_
                have HO255 := n5_
                have HB := n6_
                have HO258 := n7_
                clear n0_ n1_ n2_ n3_ n4_ n5_ n6_ n7_
                clear ho hb hg hat
                obtain ⟨Ao135, co135, eo135⟩ := Kd.R_slice HO252.out
                (first | subst eo135 | (injection eo135 with f1_ f2_ f3_; have f4_ := f1_.symm; have f5_ := f3_.symm; clear f1_ f2_ f3_; subst f4_; subst f5_))
                obtain ⟨Ao137, co137, eo137⟩ := Kd.R_slice HO258.out
                (first | subst eo137 | (injection eo137 with f1_ f2_ f3_; have f4_ := f1_.symm; have f5_ := f3_.symm; clear f1_ f2_ f3_; subst f4_; subst f5_))
                refine hK.out _ _ ⟨(blk_cell BK230.out 0).trans rfl, (blk_cell BK230.out 1).trans rfl⟩ (fun hHeld => ?_)
                clear hK K
                refine norm_ (a' := ?_) ?_ ?_
                rotate_left
                ·show Act.put _ (some 125) _ = _
                 simp only [Act.put, List.setIfInBounds_toArray, List.set_cons_zero, List.set_cons_succ, i64_w, i32_w]
                 rfl
                refine last_ (i := 9) (N := none) #[true, true, true, true, true, true, true, true, true, true, false, false, false] rfl rfl (one_of HT_.out (by kernel_rfl)) (by decide) (fun K hK => ?_)
                have hs136 : w133.cell? ⟨gb230, 0, none⟩ = some (.slice Ao31 xa0_1.length co31) := (blk_cell BK230.out 0).trans rfl
                have hfs136 := blk_frozen BK230.out 0
                have hns136_0 := NB225_230.out
                have hns136_2 := NB232_230.out
                have hms136_0 := NB230_225.out
                have hms136_2 := NB230_232.out
                refine skip_ (w1 := ?_) (by rfl) rfl ?_ ?_
                rotate_left
                ·go_simp
                 rfl
                refine hK.out _ _ ?_
                clear hK K
                refine pure_ (i := 10) (N := some 127) (v := ?_) (a' := ?_) #[true, true, true, true, true, true, true, true, true, true, true, false, false] rfl rfl (any_of HT_.out (by kernel_rfl)) (fun _ _ _ h => h) (Or.inl ⟨by rfl, ?_⟩) ?_ ?_
                rotate_left
                ·intro w'
                 go_simp
                 with_reducible rfl
                rotate_left
                ·simp only [Act.put, List.setIfInBounds_toArray, List.set_cons_zero, List.set_cons_succ, i64_w, i32_w]
                 rfl
                refine last_ (i := 11) (N := none) #[true, true, true, true, true, true, true, true, true, true, true, true, false] rfl rfl (one_of HT_.out (by kernel_rfl)) (by decide) (fun K hK => ?_)
                have hs138 : w133.cell? ⟨gb230, 1, none⟩ = some (.slice Ao124 xa1_1.length co124) := (blk_cell BK230.out 1).trans rfl
                have hfs138 := blk_frozen BK230.out 1
                have hns138_0 := NB225_230.out
                have hns138_2 := NB232_230.out
                have hms138_0 := NB230_225.out
                have hms138_2 := NB230_232.out
                refine skip_ (w1 := ?_) (by rfl) rfl ?_ ?_
                rotate_left
                ·go_simp
                 rfl
                refine hK.out _ _ ?_
                clear hK K
                refine pure_ (i := 12) (N := some 6) (v := ?_) (a' := ?_) #[true, true, true, true, true, true, true, true, true, true, true, true, true] rfl rfl (any_of HT_.out (by kernel_rfl)) (fun _ _ _ h => h) (Or.inl ⟨by rfl, ?_⟩) ?_ ?_
                rotate_left
                ·intro w'
                 go_simp
                 with_reducible rfl
                rotate_left
                ·simp only [Act.put, List.setIfInBounds_toArray, List.set_cons_zero, List.set_cons_succ, i64_w, i32_w]
                 rfl
                refine done_ (done_of HT_.out (by kernel_rfl)) ?_
                try go_wp2
                go_roundg kj23
                case measure => have := HK1.out; have := HJ23.out; omega
                case rel => exact ⟨(false), (x7_1), (wrap64 (x19_1 + 1)), (y250), (y256), (.slice Ao135 y250.length co135), (.slice Ao137 y256.length co137), (by first | rfl | (simp; done) | (simp [*]; done)), (by first | rfl | (simp; done) | (simp [*]; done)), (by first | rfl | (simp; done) | (simp [*]; done)), H', ⟨by have := HK1.out; have := HJ23.out; omega⟩, ⟨by (with_reducible repeat (first | apply Kd.R_alloc | apply Kd.R_drewN | apply Kd.R_drew)); exact Kd.R_mono (Kd.R_far (p := ⟨gb230, 1, none⟩) (Kd.R_far (p := ⟨gb230, 0, none⟩) (Kd.R_types HO252.out BK230.out (by decide)) (fun _ hk => hk.2) (.slice Ao135 y250.length co135)) (fun _ hk => hk.2) (.slice Ao137 y256.length co137)) (fun _ hk => trivial)⟩, ⟨by (with_reducible repeat (first | apply Kd.R_alloc | apply Kd.R_drewN | apply Kd.R_drew)); exact Kd.R_mono (Kd.R_far (p := ⟨gb230, 1, none⟩) (Kd.R_far (p := ⟨gb230, 0, none⟩) (Kd.R_types HO258.out BK230.out (by decide)) (fun _ hk => hk.2) (.slice Ao135 y250.length co135)) (fun _ hk => hk.2) (.slice Ao137 y256.length co137)) (fun _ hk => trivial)⟩, ⟨by (with_reducible repeat (first | refine blk_drewN ?_ _ | refine blk_drew ?_ | refine blk_alloc ?_ _)); refine blk_far ?_ NB225_230.out _; (with_reducible repeat (first | refine blk_drewN ?_ _ | refine blk_drew ?_ | refine blk_alloc ?_ _)); refine blk_far ?_ NB225_230.out _; (with_reducible repeat (first | refine blk_drewN ?_ _ | refine blk_drew ?_ | refine blk_alloc ?_ _)); exact BK225.out⟩, ⟨by (with_reducible repeat (first | refine blk_drewN ?_ _ | refine blk_drew ?_ | refine blk_alloc ?_ _)); refine blk_put (cs := #[.slice Ao135 y250.length co135, .slice Ao124 xa1_1.length co124]) ?_ 1 _ rfl; (with_reducible repeat (first | refine blk_drewN ?_ _ | refine blk_drew ?_ | refine blk_alloc ?_ _)); refine blk_put (cs := #[.slice Ao31 xa0_1.length co31, .slice Ao124 xa1_1.length co124]) ?_ 0 _ rfl; (with_reducible repeat (first | refine blk_drewN ?_ _ | refine blk_drew ?_ | refine blk_alloc ?_ _)); exact BK230.out⟩, ⟨by repeat (first | (with_reducible first | exact HB.out | apply below_alloc | apply pw_below_drewN | apply below_drew1 | refine below_set ?_ GE225.out | refine below_set ?_ GE230.out | refine below_set ?_ GE232.out) | exact HB.out)⟩⟩
               ·rw [if_neg c120] at H
                exact absurd H (by simp)
              ·rw [if_neg c119] at H
               exact absurd H (by simp)
             ·rw [if_neg c118] at H
              have c118b0 : (x19_1 == (wrap64 ((l0.length : Int) - 1))) = false := beq_eq_false_iff_ne.mpr c118
              have c118b1 : (x19_1 != (wrap64 ((l0.length : Int) - 1))) = true := bne_iff_ne.mpr c118
              simp only [Option.some.injEq, Prod.mk.injEq] at H
              obtain ⟨rfl, rfl, rfl⟩ := H
              have hnb139 := NB232_225.out
              have hnc139 := NB225_232.out
              have hnb140 := NB232_230.out
              have hnc140 := NB230_232.out
              have hcz141_0 : wc.cell? ⟨gb232, 0, none⟩ = some (.int .i32 ((rd_T66 l0 x19_1).f0)) := (blk_cell BK232.out 0).trans rfl
              have hcz141_1 : wc.cell? ⟨gb232, 1, none⟩ = some (.int .i64 ((rd_T66 l0 x19_1).f1)) := (blk_cell BK232.out 1).trans rfl
              have hcz141_2 : wc.cell? ⟨gb232, 2, none⟩ = some (.int .i64 ((rd_T66 l0 x19_1).f2)) := (blk_cell BK232.out 2).trans rfl
              have hfz141_0 := blk_frozen BK232.out 0
              have hfz141_1 := blk_frozen BK232.out 1
              have hfz141_2 := blk_frozen BK232.out 2
              have hnb142 := NB230_225.out
              have hnc142 := NB225_230.out
              have hcz143_0 : wc.cell? ⟨gb230, 0, none⟩ = some (.slice Ao31 xa0_1.length co31) := (blk_cell BK230.out 0).trans rfl
              have hcz143_1 : wc.cell? ⟨gb230, 1, none⟩ = some (ua1) := (blk_cell BK230.out 1).trans rfl
              have hfz143_0 := blk_frozen BK230.out 0
              have hfz143_1 := blk_frozen BK230.out 1
              have hcz144_0 : wc.cell? ⟨gb225, 0, none⟩ = some (.slice none 0 0) := (blk_cell BK225.out 0).trans rfl
              have hcz144_1 : wc.cell? ⟨gb225, 1, none⟩ = some (.slice none 0 0) := (blk_cell BK225.out 1).trans rfl
              have hfz144_0 := blk_frozen BK225.out 0
              have hfz144_1 := blk_frozen BK225.out 1
              obtain ⟨Ao145, co145, eo145⟩ := Kd.R_slice HO_a1.out
              subst eo145
              go_wp2
              refine bodyPost_ret (results_ct rfl _ _ gb225 39 #[.slice Ao31 xa0_1.length co31, .slice Ao145 xa1_1.length co145] (0, 0) _ rfl (by (with_reducible repeat (first | refine blk_drewN ?_ _ | refine blk_drew ?_ | refine blk_alloc ?_ _)); refine blk_put (cs := #[.slice Ao31 xa0_1.length co31, .slice none 0 0]) ?_ 1 _ rfl; (with_reducible repeat (first | refine blk_drewN ?_ _ | refine blk_drew ?_ | refine blk_alloc ?_ _)); refine blk_put (cs := #[.slice none 0 0, .slice none 0 0]) ?_ 0 _ rfl; (with_reducible repeat (first | refine blk_drewN ?_ _ | refine blk_drew ?_ | refine blk_alloc ?_ _)); exact BK225.out) Try.underlying39 rfl (by kernel_rfl)) rfl ?_
              exact ⟨_, _, by first | rfl | (simp [errW_none, errW_some] <;> rfl) | (simp [*, errW_none, errW_some] <;> rfl), by (with_reducible repeat (first | apply Kd.R_alloc | apply Kd.R_drewN | apply Kd.R_drew)); exact Kd.R_mono (Kd.R_far (p := ⟨gb225, 1, none⟩) (Kd.R_far (p := ⟨gb225, 0, none⟩) (Kd.R_types HO_a0.out BK225.out (by decide)) (fun _ hk => hk.2) (.slice Ao31 xa0_1.length co31)) (fun _ hk => hk.2) (.slice Ao145 xa1_1.length co145)) (fun _ hk => trivial), by (with_reducible repeat (first | apply Kd.R_alloc | apply Kd.R_drewN | apply Kd.R_drew)); exact Kd.R_mono (Kd.R_far (p := ⟨gb225, 1, none⟩) (Kd.R_far (p := ⟨gb225, 0, none⟩) (Kd.R_types HO_a1.out BK225.out (by decide)) (fun _ hk => hk.2) (.slice Ao31 xa0_1.length co31)) (fun _ hk => hk.2) (.slice Ao145 xa1_1.length co145)) (fun _ hk => trivial), by repeat (first | (with_reducible first | exact HB.out | apply below_alloc | apply pw_below_drewN | apply below_drew1 | refine below_set ?_ GE225.out | refine below_set ?_ GE230.out | refine below_set ?_ GE232.out) | exact HB.out)⟩
          ·rw [if_neg c88] at H
           have c88b0 : (((rd_T66 l0 x19_1).f0) == 46) = false := beq_eq_false_iff_ne.mpr c88
           have c88b1 : (((rd_T66 l0 x19_1).f0) != 46) = true := bne_iff_ne.mpr c88
           obtain ⟨y259, hy259⟩ : ∃ y_ : List Int, y_ = (([((rd_T66 l0 x19_1).f0)] : List Int)) := ⟨_, rfl⟩
           replace H : (if xa0_1.length + y259.length < 35184372088832 then ((some (([0] : List Int) : List Int)).bind fun y265 => (if xa1_1.length + y265.length < 140737488355328 then (pats_one.l0 kj23 l0 t226 false (wrap64 (x7_1 + 1)) l0 (l0.length : Int) (wrap64 (x19_1 + 1)) (xa0_1 ++ y259) (xa1_1 ++ y265)) else (none))) else (none)) = some (r1, r2, r3) := by first | (rw [hy259]; with_reducible exact H) | (have H2_ := (Option.bind_some _ _).symm.trans H; rw [hy259]; with_reducible exact H2_) | (have H2_ := (Option.bind_some _ _).symm.trans H; with_reducible exact H2_) | with_reducible exact H | (rw [hy259]; exact H) | exact H
           have Ny259 := Aside0.mk hy259
           clear hy259
           by_cases c146 : xa0_1.length + y259.length < 35184372088832
           ·rw [if_pos c146] at H
            have LMc146 := Aside0.mk c146
            clear c146
            obtain ⟨y262, hy262⟩ : ∃ y_ : List Int, y_ = (xa0_1 ++ y259) := ⟨_, rfl⟩
            replace H : ((some (([0] : List Int) : List Int)).bind fun y265 => (if xa1_1.length + y265.length < 140737488355328 then (pats_one.l0 kj23 l0 t226 false (wrap64 (x7_1 + 1)) l0 (l0.length : Int) (wrap64 (x19_1 + 1)) y262 (xa1_1 ++ y265)) else (none))) = some (r1, r2, r3) := by first | (rw [hy262]; with_reducible exact H) | (have H2_ := (Option.bind_some _ _).symm.trans H; rw [hy262]; with_reducible exact H2_) | (have H2_ := (Option.bind_some _ _).symm.trans H; with_reducible exact H2_) | with_reducible exact H | (rw [hy262]; exact H) | exact H
            have Ny262 := Aside0.mk hy262
            clear hy262
            obtain ⟨y265, hy265⟩ : ∃ y_ : List Int, y_ = (([0] : List Int)) := ⟨_, rfl⟩
            replace H : (if xa1_1.length + y265.length < 140737488355328 then (pats_one.l0 kj23 l0 t226 false (wrap64 (x7_1 + 1)) l0 (l0.length : Int) (wrap64 (x19_1 + 1)) y262 (xa1_1 ++ y265)) else (none)) = some (r1, r2, r3) := by first | (rw [hy265]; with_reducible exact H) | (have H2_ := (Option.bind_some _ _).symm.trans H; rw [hy265]; with_reducible exact H2_) | (have H2_ := (Option.bind_some _ _).symm.trans H; with_reducible exact H2_) | with_reducible exact H | (rw [hy265]; exact H) | exact H
            have Ny265 := Aside0.mk hy265
            clear hy265
            by_cases c147 : xa1_1.length + y265.length < 140737488355328
            ·rw [if_pos c147] at H
             have LMc147 := Aside0.mk c147
             clear c147
             obtain ⟨y268, hy268⟩ : ∃ y_ : List Int, y_ = (xa1_1 ++ y265) := ⟨_, rfl⟩
             replace H : (pats_one.l0 kj23 l0 t226 false (wrap64 (x7_1 + 1)) l0 (l0.length : Int) (wrap64 (x19_1 + 1)) y262 y268) = some (r1, r2, r3) := by first | (rw [hy268]; with_reducible exact H) | (have H2_ := (Option.bind_some _ _).symm.trans H; rw [hy268]; with_reducible exact H2_) | (have H2_ := (Option.bind_some _ _).symm.trans H; with_reducible exact H2_) | with_reducible exact H | (rw [hy268]; exact H) | exact H
             have Ny268 := Aside0.mk hy268
             clear hy268
             have H' := Aside0.mk H
             clear H
             have hnb148 := NB232_225.out
             have hnc148 := NB225_232.out
             have hnb149 := NB232_230.out
             have hnc149 := NB230_232.out
             have hcz150_0 : wc.cell? ⟨gb232, 0, none⟩ = some (.int .i32 ((rd_T66 l0 x19_1).f0)) := (blk_cell BK232.out 0).trans rfl
             have hcz150_1 : wc.cell? ⟨gb232, 1, none⟩ = some (.int .i64 ((rd_T66 l0 x19_1).f1)) := (blk_cell BK232.out 1).trans rfl
             have hcz150_2 : wc.cell? ⟨gb232, 2, none⟩ = some (.int .i64 ((rd_T66 l0 x19_1).f2)) := (blk_cell BK232.out 2).trans rfl
             have hfz150_0 := blk_frozen BK232.out 0
             have hfz150_1 := blk_frozen BK232.out 1
             have hfz150_2 := blk_frozen BK232.out 2
             obtain ⟨Ao151, co151, eo151⟩ := Kd.R_slice HO_a1.out
             subst eo151
             try go_wp2
             have n0_ := Aside0.mk (Kd.R_drew HO_a0.out)
             have n1_ := Aside0.mk (Kd.R_drew HO_a1.out)
             have n2_ := Aside0.mk (blk_drew BK225.out)
             have n3_ := Aside0.mk (blk_drew BK230.out)
             have n4_ := Aside0.mk (blk_drew BK232.out)
             have n5_ := Aside0.mk (below_drew1 HB.out)
             clear HO_a0
             clear HO_a1
             clear BK225
             clear BK230
             clear BK232
             clear HB
             have HO_a0 := n0_
             have HO_a1 := n1_
             have BK225 := n2_
             have BK230 := n3_
             have BK232 := n4_
             have HB := n5_
             clear n0_ n1_ n2_ n3_ n4_ n5_
             refine start_ (n := 15) (S := fun w' => w'.cell? ⟨gb230, 0, none⟩ = some (.slice Ao31 xa0_1.length co31) ∧ w'.cell? ⟨gb230, 1, none⟩ = some (.slice Ao151 xa1_1.length co151) ∧ w'.cell? ⟨gb232, 0, none⟩ = some (.int .i32 ((rd_T66 l0 x19_1).f0)) ∧ w'.cell? ⟨gb232, 1, none⟩ = some (.int .i64 ((rd_T66 l0 x19_1).f1)) ∧ w'.cell? ⟨gb232, 2, none⟩ = some (.int .i64 ((rd_T66 l0 x19_1).f2))) (ds := [11, 13]) #[false, false, false, false, false, false, false, false, false, false, false, false, false, false, false] (by kernel_rfl) rfl rfl ⟨(blk_cell BK230.out 0).trans rfl, (blk_cell BK230.out 1).trans rfl, (blk_cell BK232.out 0).trans rfl, (blk_cell BK232.out 1).trans rfl, (blk_cell BK232.out 2).trans rfl⟩ (fun hHeld => ?_); refine with_tabW pats_one.tab10 pats_one.bits10 (fun HT_ HW_ => ?_)
             generalize wc.drew = w152 at HO_a0 HO_a1 BK225 BK230 BK232 HB hHeld ⊢
             refine pure_ (i := 0) (N := some 29) (v := ?_) (a' := ?_) #[true, false, false, false, false, false, false, false, false, false, false, false, false, false, false] rfl rfl (any_of HT_.out (by kernel_rfl)) (fun _ _ _ h => h) (Or.inl ⟨by rfl, ?_⟩) ?_ ?_
             rotate_left
             ·intro w'
              go_simp
              with_reducible rfl
             rotate_left
             ·simp only [Act.put, List.setIfInBounds_toArray, List.set_cons_zero, List.set_cons_succ, i64_w, i32_w]
              rfl
             refine pure_ (i := 2) (N := some 31) (v := ?_) (a' := ?_) #[true, false, true, false, false, false, false, false, false, false, false, false, false, false, false] rfl rfl (any_of HT_.out (by kernel_rfl)) (fun _ _ _ h => h) (Or.inl ⟨by rfl, ?_⟩) ?_ ?_
             rotate_left
             ·intro w'
              go_simp
              with_reducible rfl
             rotate_left
             ·simp only [Act.put, List.setIfInBounds_toArray, List.set_cons_zero, List.set_cons_succ, i64_w, i32_w]
              rfl
             refine pure_ (i := 6) (N := some 35) (v := ?_) (a' := ?_) #[true, false, true, false, false, false, true, false, false, false, false, false, false, false, false] rfl rfl (any_of HT_.out (by kernel_rfl)) (fun _ _ _ h => h) (Or.inl ⟨by rfl, ?_⟩) ?_ ?_
             rotate_left
             ·intro w'
              go_simp
              with_reducible rfl
             rotate_left
             ·simp only [Act.put, List.setIfInBounds_toArray, List.set_cons_zero, List.set_cons_succ, i64_w, i32_w]
              rfl
             refine take_ (i := 1) (N := some 30) (v := ?_) (a' := ?_) #[true, true, true, false, false, false, true, false, false, false, false, false, false, false, false] rfl rfl (take_ofW HT_.out HW_.out (by kernel_rfl)) (fun _ _ _ h => h) (Or.inl ⟨by rfl, ?_⟩) hHeld ?_ ?_
             rotate_left
             ·rintro w' ⟨s0, s1, s2, s3, s4⟩
              go_simp
              with_reducible rfl
             rotate_left
             ·simp only [Act.put, List.setIfInBounds_toArray, List.set_cons_zero, List.set_cons_succ, i64_w, i32_w]
              rfl
             refine take_ (i := 3) (N := some 32) (v := ?_) (a' := ?_) #[true, true, true, true, false, false, true, false, false, false, false, false, false, false, false] rfl rfl (take_ofW HT_.out HW_.out (by kernel_rfl)) (fun _ _ _ h => h) (Or.inl ⟨by rfl, ?_⟩) hHeld ?_ ?_
             rotate_left
             ·rintro w' ⟨s0, s1, s2, s3, s4⟩
              go_simp
              with_reducible rfl
             rotate_left
             ·simp only [Act.put, List.setIfInBounds_toArray, List.set_cons_zero, List.set_cons_succ, i64_w, i32_w]
              rfl
             refine take_ (i := 7) (N := some 36) (v := ?_) (a' := ?_) #[true, true, true, true, false, false, true, true, false, false, false, false, false, false, false] rfl rfl (take_ofW HT_.out HW_.out (by kernel_rfl)) (fun _ _ _ h => h) (Or.inl ⟨by rfl, ?_⟩) hHeld ?_ ?_
             rotate_left
             ·rintro w' ⟨s0, s1, s2, s3, s4⟩
              go_simp
              with_reducible rfl
             rotate_left
             ·simp only [Act.put, List.setIfInBounds_toArray, List.set_cons_zero, List.set_cons_succ, i64_w, i32_w]
              rfl
             refine join_ (σ := Value × Value × Value) 5 #[true, true, true, true, true, true, true, true, true, false, true, false, false, false, false] (fun s_ => [(33, s_.1), (34, s_.2.1), (37, s_.2.2), (39, .pointer (some ⟨gb230, 0, none⟩))]) (fun s_ w' => (w'.cell? ⟨gb230, 0, none⟩ = some (.slice Ao31 xa0_1.length co31) ∧ w'.cell? ⟨gb230, 1, none⟩ = some (.slice Ao151 xa1_1.length co151) ∧ w'.cell? ⟨gb232, 0, none⟩ = some (.int .i32 ((rd_T66 l0 x19_1).f0)) ∧ w'.cell? ⟨gb232, 1, none⟩ = some (.int .i64 ((rd_T66 l0 x19_1).f1)) ∧ w'.cell? ⟨gb232, 2, none⟩ = some (.int .i64 ((rd_T66 l0 x19_1).f2))) ∧ (Kd.R (Kd.int .i32) 21 w' w.heap.size (fun k_ => some k_ ≠ (s_.2.1 : Value).ownBlock) s_.1 y259) ∧ (Kd.R (Kd.int .i32) 21 w' w.heap.size (fun k_ => some k_ ≠ (s_.1 : Value).ownBlock) s_.2.1 y262) ∧ (Kd.R (Kd.int .u8) 5 w' w.heap.size (fun k_ => some k_ ≠ (.slice Ao151 xa1_1.length co151 : Value).ownBlock) s_.2.2 y265) ∧ (Kd.R (Kd.int .u8) 5 w' w.heap.size (fun k_ => some k_ ≠ (s_.2.2 : Value).ownBlock) (.slice Ao151 xa1_1.length co151) xa1_1) ∧ (w'.heap[gb225]? = some (.cells #[.slice none 0 0, .slice none 0 0] 39 (0, 0))) ∧ (w'.heap[gb230]? = some (.cells #[.slice Ao31 xa0_1.length co31, .slice Ao151 xa1_1.length co151] 39 (0, 0))) ∧ (w'.heap[gb232]? = some (.cells #[.int .i32 ((rd_T66 l0 x19_1).f0), .int .i64 ((rd_T66 l0 x19_1).f1), .int .i64 ((rd_T66 l0 x19_1).f2)] 66 (0, 0))) ∧ (Below w.heap.size w w')) ?_ ?_
             rotate_left
             ·intro hCont
              refine two_ (i := 4) (j := 8) (Ni := some 33) (Nj := some 37) #[true, true, true, true, true, false, true, true, false, false, false, false, false, false, false] #[true, true, true, true, false, false, true, true, true, false, false, false, false, false, false] rfl rfl rfl rfl (two_of HT_.out (by kernel_rfl)) (by decide) (by decide) (fun K hK => ?_) (fun K hK => ?_)
              ·skip
               refine Kd.R_lit_step (Kd.int .i32) _ 21 ?hg (N := 33) ?hd (xs := ([((rd_T66 l0 x19_1).f0)] : List Int)) (inner := [.int .i32 ((rd_T66 l0 x19_1).f0)]) (ok := fun _ => True) (okp := fun _ => True) ?hr ?hp (fun _ hk => hk) trivial (Below.refl _ _) (Nat.le_refl _) (by simp) ?_; (case hd => rfl); (case hg => rfl); (case hr => first | (go_simp; done) | (go_simp; rfl)); (case hp => exact (Reps.one (show Kd.M (Kd.int .i32) _ _ _ ((rd_T66 l0 x19_1).f0) [.int .i32 ((rd_T66 l0 x19_1).f0)] from rfl) (Reps.none _ _)))
               intro v260 w153 ho154 hb hg_ hnew_
               clear hg_ hnew_
               (first | rw [← Ny259.out] at ho154 | (simp only [Int.reduceToNat] at ho154; rw [← Ny259.out] at ho154))
               have n0_ := Aside0.mk (Kd.R_elder' (by (with_reducible repeat (first | apply Kd.R_alloc | apply Kd.R_drewN | apply Kd.R_drew)); exact HO_a0.out) (Kd.R_base ho154) hb)
               have n1_ := Aside0.mk (Kd.R_below (by (with_reducible repeat (first | apply Kd.R_alloc | apply Kd.R_drewN | apply Kd.R_drew)); exact HO_a1.out) hb)
               have n2_ := Aside0.mk (Kd.R_lower (Kd.R_new' ho154 (Kd.R_lt (by (with_reducible repeat (first | apply Kd.R_alloc | apply Kd.R_drewN | apply Kd.R_drew)); exact HO_a0.out))) (below_size (by repeat (first | (with_reducible first | exact HB.out | apply below_alloc | apply pw_below_drewN | apply below_drew1 | refine below_set ?_ GE225.out | refine below_set ?_ GE230.out | refine below_set ?_ GE232.out) | exact HB.out))))
               have n3_ := Aside0.mk (blk_below (g := gb225) (o := .cells #[.slice none 0 0, .slice none 0 0] 39 (0, 0)) (by (with_reducible repeat (first | refine blk_drewN ?_ _ | refine blk_drew ?_ | refine blk_alloc ?_ _)); exact BK225.out) hb)
               have n4_ := Aside0.mk (blk_below (g := gb230) (o := .cells #[.slice Ao31 xa0_1.length co31, .slice Ao151 xa1_1.length co151] 39 (0, 0)) (by (with_reducible repeat (first | refine blk_drewN ?_ _ | refine blk_drew ?_ | refine blk_alloc ?_ _)); exact BK230.out) hb)
               have n5_ := Aside0.mk (blk_below (g := gb232) (o := .cells #[.int .i32 ((rd_T66 l0 x19_1).f0), .int .i64 ((rd_T66 l0 x19_1).f1), .int .i64 ((rd_T66 l0 x19_1).f2)] 66 (0, 0)) (by (with_reducible repeat (first | refine blk_drewN ?_ _ | refine blk_drew ?_ | refine blk_alloc ?_ _)); exact BK232.out) hb)
               have n6_ := Aside0.mk (below_step (by repeat (first | (with_reducible first | exact HB.out | apply below_alloc | apply pw_below_drewN | apply below_drew1 | refine below_set ?_ GE225.out | refine below_set ?_ GE230.out | refine below_set ?_ GE232.out) | exact HB.out)) hb)
               clear HO_a0
               clear HO_a1
               clear BK225
               clear BK230
               clear BK232
               clear HB
               have HO_a0 := n0_
               have HO_a1 := n1_
               have HO261 := n2_
               have BK225 := n3_
               have BK230 := n4_
               have BK232 := n5_
               have HB := n6_
               clear n0_ n1_ n2_ n3_ n4_ n5_ n6_
               clear hb ho154
               obtain ⟨Ao156, co156, eo156⟩ := Kd.R_slice HO261.out
               (first | subst eo156 | (injection eo156 with f1_ f2_ f3_; have f4_ := f1_.symm; have f5_ := f3_.symm; clear f1_ f2_ f3_; subst f4_; subst f5_))
               refine hK.out _ _ ⟨(blk_cell BK230.out 0).trans rfl, (blk_cell BK230.out 1).trans rfl, (blk_cell BK232.out 0).trans rfl, (blk_cell BK232.out 1).trans rfl, (blk_cell BK232.out 2).trans rfl⟩ (fun hHeld => ?_)
               clear hK K
               refine norm_ (a' := ?_) ?_ ?_
               rotate_left
               ·show Act.put _ (some 33) _ = _
                simp only [Act.put, List.setIfInBounds_toArray, List.set_cons_zero, List.set_cons_succ, i64_w, i32_w]
                rfl
               refine two_ (i := 5) (j := 8) (Ni := some 34) (Nj := some 37) #[true, true, true, true, true, true, true, true, false, false, false, false, false, false, false] #[true, true, true, true, true, false, true, true, true, false, false, false, false, false, false] rfl rfl rfl rfl (two_of HT_.out (by kernel_rfl)) (by decide) (by decide) (fun K hK => ?_) (fun K hK => ?_)
               ·skip
                refine Kd.R_append_rows_step (Kd.int .i32) (w0 := w) w.heap.size (by rfl) (.tmp 30) (.tmp 33) 23 21 (.int .i32 0) 4 rfl Try.underlying23 info21 rfl (by decide) (by omega) (.slice Ao31 xa0_1.length co31) xa0_1 y259 _ _ _ (fun k_ => some k_ ≠ (.slice Ao156 y259.length co156 : Value).ownBlock) (fun _ => False) rfl rfl ?aO ?aR (fun _ _ h => h) (fun _ h => h.elim) ?aF ?aB ?aS ?aL ?_
                (case aR => repeat (first | exact (Kd.R_reads' HO261.out).2.2 | (with_reducible refine Kd.C_alloc ?_ _) | (with_reducible refine Kd.C_drewN ?_ _) | (with_reducible refine Kd.C_drew ?_)))
                (case aB => exact (by repeat (first | (with_reducible first | exact HB.out | apply below_alloc | apply pw_below_drewN | apply below_drew1 | refine below_set ?_ GE225.out | refine below_set ?_ GE230.out | refine below_set ?_ GE232.out) | exact HB.out)))
                (case aF => exact (fun k_ hk => Kd.fresh' (Kd.R_lt (by (with_reducible repeat (first | apply Kd.R_alloc | apply Kd.R_drewN | apply Kd.R_drew)); exact HO261.out)) k_ hk))
                (case aO => exact (by (with_reducible repeat (first | apply Kd.R_alloc | apply Kd.R_drewN | apply Kd.R_drew)); exact Kd.R_mono HO_a0.out (fun _ hk => hk.2)))
                (case aS => exact (below_size (by repeat (first | (with_reducible first | exact HB.out | apply below_alloc | apply pw_below_drewN | apply below_drew1 | refine below_set ?_ GE225.out | refine below_set ?_ GE230.out | refine below_set ?_ GE232.out) | exact HB.out))))
                (case aL => have := LMc146.out; omega)
                intro v263 w155 ho hb hg hat
                rw [← Ny262.out] at ho
                have n0_ := Aside0.mk (Kd.R_over' (by (with_reducible repeat (first | apply Kd.R_alloc | apply Kd.R_drewN | apply Kd.R_drew)); exact HO_a1.out) (Kd.R_typed (by (with_reducible repeat (first | apply Kd.R_alloc | apply Kd.R_drewN | apply Kd.R_drew)); exact HO_a0.out)) (by decide) hg)
                have n1_ := Aside0.mk (blk_grown (g := gb225) (o := .cells #[.slice none 0 0, .slice none 0 0] 39 (0, 0)) (by (with_reducible repeat (first | refine blk_drewN ?_ _ | refine blk_drew ?_ | refine blk_alloc ?_ _)); exact BK225.out) hg (Kd.R_ne HO_a0.out BK225.out (by decide)))
                have n2_ := Aside0.mk (blk_grown (g := gb230) (o := .cells #[.slice Ao31 xa0_1.length co31, .slice Ao151 xa1_1.length co151] 39 (0, 0)) (by (with_reducible repeat (first | refine blk_drewN ?_ _ | refine blk_drew ?_ | refine blk_alloc ?_ _)); exact BK230.out) hg (Kd.R_ne HO_a0.out BK230.out (by decide)))
                have n3_ := Aside0.mk (blk_grown (g := gb232) (o := .cells #[.int .i32 ((rd_T66 l0 x19_1).f0), .int .i64 ((rd_T66 l0 x19_1).f1), .int .i64 ((rd_T66 l0 x19_1).f2)] 66 (0, 0)) (by (with_reducible repeat (first | refine blk_drewN ?_ _ | refine blk_drew ?_ | refine blk_alloc ?_ _)); exact BK232.out) hg (Kd.R_ne HO_a0.out BK232.out (by decide)))
                have n4_ := Aside0.mk (Kd.R_after (ok := (fun _ => True)) (by (with_reducible repeat (first | apply Kd.R_alloc | apply Kd.R_drewN | apply Kd.R_drew)); exact HO261.out) hg hat)
                have n5_ := Aside0.mk (hb)
                have n6_ := Aside0.mk (ho)
                clear HO_a1
                clear BK225
                clear BK230
                clear BK232
                clear HO261
                clear HB
                clear HO_a0
                have HO_a1 := n0_
                have BK225 := n1_
                have BK230 := n2_
                have BK232 := n3_
                have HO261 := n4_
                have HB := n5_
                have HO264 := n6_
                clear n0_ n1_ n2_ n3_ n4_ n5_ n6_
                clear ho hb hg hat
                refine hK.out _ _ ⟨(blk_cell BK230.out 0).trans rfl, (blk_cell BK230.out 1).trans rfl, (blk_cell BK232.out 0).trans rfl, (blk_cell BK232.out 1).trans rfl, (blk_cell BK232.out 2).trans rfl⟩ (fun hHeld => ?_)
                clear hK K
                refine norm_ (a' := ?_) ?_ ?_
                rotate_left
                ·show Act.put _ (some 34) _ = _
                 simp only [Act.put, List.setIfInBounds_toArray, List.set_cons_zero, List.set_cons_succ, i64_w, i32_w]
                 rfl
                refine pure_ (i := 10) (N := some 39) (v := ?_) (a' := ?_) #[true, true, true, true, true, true, true, true, false, false, true, false, false, false, false] rfl rfl (any_of HT_.out (by kernel_rfl)) (fun _ _ _ h => h) (Or.inl ⟨by rfl, ?_⟩) ?_ ?_
                rotate_left
                ·intro w'
                 go_simp
                 with_reducible rfl
                rotate_left
                ·simp only [Act.put, List.setIfInBounds_toArray, List.set_cons_zero, List.set_cons_succ, i64_w, i32_w]
                 rfl
                refine one_ (i := 8) (N := some 37) #[true, true, true, true, true, true, true, true, true, false, true, false, false, false, false] rfl rfl (one_of HT_.out (by kernel_rfl)) (by decide) (fun K hK => ?_)
                refine Kd.R_lit_step (Kd.int .u8) _ 5 ?hg (N := 37) ?hd (xs := ([0] : List Int)) (inner := [.int .u8 0]) (ok := fun _ => True) (okp := fun _ => True) ?hr ?hp (fun _ hk => hk) trivial (Below.refl _ _) (Nat.le_refl _) (by simp) ?_; (case hd => rfl); (case hg => rfl); (case hr => first | (go_simp; done) | (go_simp; rfl)); (case hp => exact (Reps.one (show Kd.M (Kd.int .u8) _ _ _ 0 [.int .u8 0] from rfl) (Reps.none _ _)))
                intro v266 w157 ho158 hb hg_ hnew_
                clear hg_ hnew_
                (first | rw [← Ny265.out] at ho158 | (simp only [Int.reduceToNat] at ho158; rw [← Ny265.out] at ho158))
                have n0_ := Aside0.mk (Kd.R_elder' (by (with_reducible repeat (first | apply Kd.R_alloc | apply Kd.R_drewN | apply Kd.R_drew)); exact HO_a1.out) (Kd.R_base ho158) hb)
                have n1_ := Aside0.mk (Kd.R_below (by (with_reducible repeat (first | apply Kd.R_alloc | apply Kd.R_drewN | apply Kd.R_drew)); exact HO261.out) hb)
                have n2_ := Aside0.mk (Kd.R_below (by (with_reducible repeat (first | apply Kd.R_alloc | apply Kd.R_drewN | apply Kd.R_drew)); exact HO264.out) hb)
                have n3_ := Aside0.mk (Kd.R_lower (Kd.R_new' ho158 (Kd.R_lt (by (with_reducible repeat (first | apply Kd.R_alloc | apply Kd.R_drewN | apply Kd.R_drew)); exact HO_a1.out))) (below_size (by repeat (first | (with_reducible first | exact HB.out | apply below_alloc | apply pw_below_drewN | apply below_drew1 | refine below_set ?_ GE225.out | refine below_set ?_ GE230.out | refine below_set ?_ GE232.out) | exact HB.out))))
                have n4_ := Aside0.mk (blk_below (g := gb225) (o := .cells #[.slice none 0 0, .slice none 0 0] 39 (0, 0)) (by (with_reducible repeat (first | refine blk_drewN ?_ _ | refine blk_drew ?_ | refine blk_alloc ?_ _)); exact BK225.out) hb)
                have n5_ := Aside0.mk (blk_below (g := gb230) (o := .cells #[.slice Ao31 xa0_1.length co31, .slice Ao151 xa1_1.length co151] 39 (0, 0)) (by (with_reducible repeat (first | refine blk_drewN ?_ _ | refine blk_drew ?_ | refine blk_alloc ?_ _)); exact BK230.out) hb)
                have n6_ := Aside0.mk (blk_below (g := gb232) (o := .cells #[.int .i32 ((rd_T66 l0 x19_1).f0), .int .i64 ((rd_T66 l0 x19_1).f1), .int .i64 ((rd_T66 l0 x19_1).f2)] 66 (0, 0)) (by (with_reducible repeat (first | refine blk_drewN ?_ _ | refine blk_drew ?_ | refine blk_alloc ?_ _)); exact BK232.out) hb)
                have n7_ := Aside0.mk (below_step (by repeat (first | (with_reducible first | exact HB.out | apply below_alloc | apply pw_below_drewN | apply below_drew1 | refine below_set ?_ GE225.out | refine below_set ?_ GE230.out | refine below_set ?_ GE232.out) | exact HB.out)) hb)
                clear HO_a1
                clear HO261
                clear HO264
                clear BK225
                clear BK230
                clear BK232
                clear HB
                have HO_a1 := n0_
                have HO261 := n1_
                have HO264 := n2_
                have HO267 := n3_
                have BK225 := n4_
                have BK230 := n5_
                have BK232 := n6_
                have HB := n7_
                clear n0_ n1_ n2_ n3_ n4_ n5_ n6_ n7_
                clear hb ho158
                refine hK.out _ _ ⟨(blk_cell BK230.out 0).trans rfl, (blk_cell BK230.out 1).trans rfl, (blk_cell BK232.out 0).trans rfl, (blk_cell BK232.out 1).trans rfl, (blk_cell BK232.out 2).trans rfl⟩ (fun hHeld => ?_)
                clear hK K
                refine norm_ (a' := ?_) ?_ ?_
                rotate_left
                ·show Act.put _ (some 37) _ = _
                 simp only [Act.put, List.setIfInBounds_toArray, List.set_cons_zero, List.set_cons_succ, i64_w, i32_w]
                 rfl
                exact norm_ (by simp only [putAll, Act.put, List.setIfInBounds_toArray, List.set_cons_zero, List.set_cons_succ]) (hCont (.slice Ao156 y259.length co156, v263, v266) _ ⟨hHeld, (by (with_reducible repeat (first | apply Kd.R_alloc | apply Kd.R_drewN | apply Kd.R_drew)); exact Kd.R_mono HO261.out (fun _ hk => hk.2)), (by (with_reducible repeat (first | apply Kd.R_alloc | apply Kd.R_drewN | apply Kd.R_drew)); exact HO264.out), (by (with_reducible repeat (first | apply Kd.R_alloc | apply Kd.R_drewN | apply Kd.R_drew)); exact Kd.R_mono HO267.out (fun _ hk => hk.2)), (by (with_reducible repeat (first | apply Kd.R_alloc | apply Kd.R_drewN | apply Kd.R_drew)); exact Kd.R_mono HO_a1.out (fun _ hk => hk.2)), (by (with_reducible repeat (first | refine blk_drewN ?_ _ | refine blk_drew ?_ | refine blk_alloc ?_ _)); exact BK225.out), (by (with_reducible repeat (first | refine blk_drewN ?_ _ | refine blk_drew ?_ | refine blk_alloc ?_ _)); exact BK230.out), (by (with_reducible repeat (first | refine blk_drewN ?_ _ | refine blk_drew ?_ | refine blk_alloc ?_ _)); exact BK232.out), (by repeat (first | (with_reducible first | exact HB.out | apply below_alloc | apply pw_below_drewN | apply below_drew1 | refine below_set ?_ GE225.out | refine below_set ?_ GE230.out | refine below_set ?_ GE232.out) | exact HB.out))⟩)
               ·skip
                refine Kd.R_lit_step (Kd.int .u8) _ 5 ?hg (N := 37) ?hd (xs := ([0] : List Int)) (inner := [.int .u8 0]) (ok := fun _ => True) (okp := fun _ => True) ?hr ?hp (fun _ hk => hk) trivial (Below.refl _ _) (Nat.le_refl _) (by simp) ?_; (case hd => rfl); (case hg => rfl); (case hr => first | (go_simp; done) | (go_simp; rfl)); (case hp => exact (Reps.one (show Kd.M (Kd.int .u8) _ _ _ 0 [.int .u8 0] from rfl) (Reps.none _ _)))
                intro v266 w155 ho156 hb hg_ hnew_
                clear hg_ hnew_
                (first | rw [← Ny265.out] at ho156 | (simp only [Int.reduceToNat] at ho156; rw [← Ny265.out] at ho156))
                have n0_ := Aside0.mk (Kd.R_below (by (with_reducible repeat (first | apply Kd.R_alloc | apply Kd.R_drewN | apply Kd.R_drew)); exact HO_a0.out) hb)
                have n1_ := Aside0.mk (Kd.R_elder' (by (with_reducible repeat (first | apply Kd.R_alloc | apply Kd.R_drewN | apply Kd.R_drew)); exact HO_a1.out) (Kd.R_base ho156) hb)
                have n2_ := Aside0.mk (Kd.R_below (by (with_reducible repeat (first | apply Kd.R_alloc | apply Kd.R_drewN | apply Kd.R_drew)); exact HO261.out) hb)
                have n3_ := Aside0.mk (Kd.R_lower (Kd.R_new' ho156 (Kd.R_lt (by (with_reducible repeat (first | apply Kd.R_alloc | apply Kd.R_drewN | apply Kd.R_drew)); exact HO_a1.out))) (below_size (by repeat (first | (with_reducible first | exact HB.out | apply below_alloc | apply pw_below_drewN | apply below_drew1 | refine below_set ?_ GE225.out | refine below_set ?_ GE230.out | refine below_set ?_ GE232.out) | exact HB.out))))
                have n4_ := Aside0.mk (blk_below (g := gb225) (o := .cells #[.slice none 0 0, .slice none 0 0] 39 (0, 0)) (by (with_reducible repeat (first | refine blk_drewN ?_ _ | refine blk_drew ?_ | refine blk_alloc ?_ _)); exact BK225.out) hb)
                have n5_ := Aside0.mk (blk_below (g := gb230) (o := .cells #[.slice Ao31 xa0_1.length co31, .slice Ao151 xa1_1.length co151] 39 (0, 0)) (by (with_reducible repeat (first | refine blk_drewN ?_ _ | refine blk_drew ?_ | refine blk_alloc ?_ _)); exact BK230.out) hb)
                have n6_ := Aside0.mk (blk_below (g := gb232) (o := .cells #[.int .i32 ((rd_T66 l0 x19_1).f0), .int .i64 ((rd_T66 l0 x19_1).f1), .int .i64 ((rd_T66 l0 x19_1).f2)] 66 (0, 0)) (by (with_reducible repeat (first | refine blk_drewN ?_ _ | refine blk_drew ?_ | refine blk_alloc ?_ _)); exact BK232.out) hb)
                have n7_ := Aside0.mk (below_step (by repeat (first | (with_reducible first | exact HB.out | apply below_alloc | apply pw_below_drewN | apply below_drew1 | refine below_set ?_ GE225.out | refine below_set ?_ GE230.out | refine below_set ?_ GE232.out) | exact HB.out)) hb)
                clear HO_a0
                clear HO_a1
                clear HO261
                clear BK225
                clear BK230
                clear BK232
                clear HB
                have HO_a0 := n0_
                have HO_a1 := n1_
                have HO261 := n2_
                have HO267 := n3_
                have BK225 := n4_
                have BK230 := n5_
                have BK232 := n6_
                have HB := n7_
                clear n0_ n1_ n2_ n3_ n4_ n5_ n6_ n7_
                clear hb ho156
                obtain ⟨Ao158, co158, eo158⟩ := Kd.R_slice HO261.out
                (first | subst eo158 | (injection eo158 with f1_ f2_ f3_; have f4_ := f1_.symm; have f5_ := f3_.symm; clear f1_ f2_ f3_; subst f4_; subst f5_))
                refine hK.out _ _ ⟨(blk_cell BK230.out 0).trans rfl, (blk_cell BK230.out 1).trans rfl, (blk_cell BK232.out 0).trans rfl, (blk_cell BK232.out 1).trans rfl, (blk_cell BK232.out 2).trans rfl⟩ (fun hHeld => ?_)
                clear hK K
                refine norm_ (a' := ?_) ?_ ?_
                rotate_left
                ·show Act.put _ (some 37) _ = _
                 simp only [Act.put, List.setIfInBounds_toArray, List.set_cons_zero, List.set_cons_succ, i64_w, i32_w]
                 rfl
                refine one_ (i := 5) (N := some 34) #[true, true, true, true, true, true, true, true, true, false, false, false, false, false, false] rfl rfl (one_of HT_.out (by kernel_rfl)) (by decide) (fun K hK => ?_)
                refine Kd.R_append_rows_step (Kd.int .i32) (w0 := w) w.heap.size (by rfl) (.tmp 30) (.tmp 33) 23 21 (.int .i32 0) 4 rfl Try.underlying23 info21 rfl (by decide) (by omega) (.slice Ao31 xa0_1.length co31) xa0_1 y259 _ _ _ (fun k_ => some k_ ≠ (.slice Ao158 y259.length co158 : Value).ownBlock) (fun _ => False) rfl rfl ?aO ?aR (fun _ _ h => h) (fun _ h => h.elim) ?aF ?aB ?aS ?aL ?_
                (case aR => repeat (first | exact (Kd.R_reads' HO261.out).2.2 | (with_reducible refine Kd.C_alloc ?_ _) | (with_reducible refine Kd.C_drewN ?_ _) | (with_reducible refine Kd.C_drew ?_)))
                (case aB => exact (by repeat (first | (with_reducible first | exact HB.out | apply below_alloc | apply pw_below_drewN | apply below_drew1 | refine below_set ?_ GE225.out | refine below_set ?_ GE230.out | refine below_set ?_ GE232.out) | exact HB.out)))
                (case aF => exact (fun k_ hk => Kd.fresh' (Kd.R_lt (by (with_reducible repeat (first | apply Kd.R_alloc | apply Kd.R_drewN | apply Kd.R_drew)); exact HO261.out)) k_ hk))
                (case aO => exact (by (with_reducible repeat (first | apply Kd.R_alloc | apply Kd.R_drewN | apply Kd.R_drew)); exact Kd.R_mono HO_a0.out (fun _ hk => hk.2)))
                (case aS => exact (below_size (by repeat (first | (with_reducible first | exact HB.out | apply below_alloc | apply pw_below_drewN | apply below_drew1 | refine below_set ?_ GE225.out | refine below_set ?_ GE230.out | refine below_set ?_ GE232.out) | exact HB.out))))
                (case aL => have := LMc146.out; omega)
                intro v263 w157 ho hb hg hat
                rw [← Ny262.out] at ho
                have n0_ := Aside0.mk (Kd.R_over' (by (with_reducible repeat (first | apply Kd.R_alloc | apply Kd.R_drewN | apply Kd.R_drew)); exact HO_a1.out) (Kd.R_typed (by (with_reducible repeat (first | apply Kd.R_alloc | apply Kd.R_drewN | apply Kd.R_drew)); exact HO_a0.out)) (by decide) hg)
                have n1_ := Aside0.mk (blk_grown (g := gb225) (o := .cells #[.slice none 0 0, .slice none 0 0] 39 (0, 0)) (by (with_reducible repeat (first | refine blk_drewN ?_ _ | refine blk_drew ?_ | refine blk_alloc ?_ _)); exact BK225.out) hg (Kd.R_ne HO_a0.out BK225.out (by decide)))
                have n2_ := Aside0.mk (blk_grown (g := gb230) (o := .cells #[.slice Ao31 xa0_1.length co31, .slice Ao151 xa1_1.length co151] 39 (0, 0)) (by (with_reducible repeat (first | refine blk_drewN ?_ _ | refine blk_drew ?_ | refine blk_alloc ?_ _)); exact BK230.out) hg (Kd.R_ne HO_a0.out BK230.out (by decide)))
                have n3_ := Aside0.mk (blk_grown (g := gb232) (o := .cells #[.int .i32 ((rd_T66 l0 x19_1).f0), .int .i64 ((rd_T66 l0 x19_1).f1), .int .i64 ((rd_T66 l0 x19_1).f2)] 66 (0, 0)) (by (with_reducible repeat (first | refine blk_drewN ?_ _ | refine blk_drew ?_ | refine blk_alloc ?_ _)); exact BK232.out) hg (Kd.R_ne HO_a0.out BK232.out (by decide)))
                have n4_ := Aside0.mk (Kd.R_after (ok := (fun _ => True)) (by (with_reducible repeat (first | apply Kd.R_alloc | apply Kd.R_drewN | apply Kd.R_drew)); exact HO261.out) hg hat)
                have n5_ := Aside0.mk (Kd.R_over' (by (with_reducible repeat (first | apply Kd.R_alloc | apply Kd.R_drewN | apply Kd.R_drew)); exact HO267.out) (Kd.R_typed (by (with_reducible repeat (first | apply Kd.R_alloc | apply Kd.R_drewN | apply Kd.R_drew)); exact HO_a0.out)) (by decide) hg)
                have n6_ := Aside0.mk (hb)
                have n7_ := Aside0.mk (ho)
                clear HO_a1
                clear BK225
                clear BK230
                clear BK232
                clear HO261
                clear HO267
                clear HB
                clear HO_a0
                have HO_a1 := n0_
                have BK225 := n1_
                have BK230 := n2_
                have BK232 := n3_
                have HO261 := n4_
                have HO267 := n5_
                have HB := n6_
                have HO264 := n7_
                clear n0_ n1_ n2_ n3_ n4_ n5_ n6_ n7_
                clear ho hb hg hat
                refine hK.out _ _ ⟨(blk_cell BK230.out 0).trans rfl, (blk_cell BK230.out 1).trans rfl, (blk_cell BK232.out 0).trans rfl, (blk_cell BK232.out 1).trans rfl, (blk_cell BK232.out 2).trans rfl⟩ (fun hHeld => ?_)
                clear hK K
                refine norm_ (a' := ?_) ?_ ?_
                rotate_left
                ·show Act.put _ (some 34) _ = _
                 simp only [Act.put, List.setIfInBounds_toArray, List.set_cons_zero, List.set_cons_succ, i64_w, i32_w]
                 rfl
                refine pure_ (i := 10) (N := some 39) (v := ?_) (a' := ?_) #[true, true, true, true, true, true, true, true, true, false, true, false, false, false, false] rfl rfl (any_of HT_.out (by kernel_rfl)) (fun _ _ _ h => h) (Or.inl ⟨by rfl, ?_⟩) ?_ ?_
                rotate_left
                ·intro w'
                 go_simp
                 with_reducible rfl
                rotate_left
                ·simp only [Act.put, List.setIfInBounds_toArray, List.set_cons_zero, List.set_cons_succ, i64_w, i32_w]
                 rfl
                exact norm_ (by simp only [putAll, Act.put, List.setIfInBounds_toArray, List.set_cons_zero, List.set_cons_succ]) (hCont (.slice Ao158 y259.length co158, v263, v266) _ ⟨hHeld, (by (with_reducible repeat (first | apply Kd.R_alloc | apply Kd.R_drewN | apply Kd.R_drew)); exact Kd.R_mono HO261.out (fun _ hk => hk.2)), (by (with_reducible repeat (first | apply Kd.R_alloc | apply Kd.R_drewN | apply Kd.R_drew)); exact HO264.out), (by (with_reducible repeat (first | apply Kd.R_alloc | apply Kd.R_drewN | apply Kd.R_drew)); exact Kd.R_mono HO267.out (fun _ hk => hk.2)), (by (with_reducible repeat (first | apply Kd.R_alloc | apply Kd.R_drewN | apply Kd.R_drew)); exact Kd.R_mono HO_a1.out (fun _ hk => hk.2)), (by (with_reducible repeat (first | refine blk_drewN ?_ _ | refine blk_drew ?_ | refine blk_alloc ?_ _)); exact BK225.out), (by (with_reducible repeat (first | refine blk_drewN ?_ _ | refine blk_drew ?_ | refine blk_alloc ?_ _)); exact BK230.out), (by (with_reducible repeat (first | refine blk_drewN ?_ _ | refine blk_drew ?_ | refine blk_alloc ?_ _)); exact BK232.out), (by repeat (first | (with_reducible first | exact HB.out | apply below_alloc | apply pw_below_drewN | apply below_drew1 | refine below_set ?_ GE225.out | refine below_set ?_ GE230.out | refine below_set ?_ GE232.out) | exact HB.out))⟩)
              ·skip
               refine Kd.R_lit_step (Kd.int .u8) _ 5 ?hg (N := 37) ?hd (xs := ([0] : List Int)) (inner := [.int .u8 0]) (ok := fun _ => True) (okp := fun _ => True) ?hr ?hp (fun _ hk => hk) trivial (Below.refl _ _) (Nat.le_refl _) (by simp) ?_; (case hd => rfl); (case hg => rfl); (case hr => first | (go_simp; done) | (go_simp; rfl)); (case hp => exact (Reps.one (show Kd.M (Kd.int .u8) _ _ _ 0 [.int .u8 0] from rfl) (Reps.none _ _)))
               intro v266 w153 ho154 hb hg_ hnew_
               clear hg_ hnew_
               (first | rw [← Ny265.out] at ho154 | (simp only [Int.reduceToNat] at ho154; rw [← Ny265.out] at ho154))
               have n0_ := Aside0.mk (Kd.R_below (by (with_reducible repeat (first | apply Kd.R_alloc | apply Kd.R_drewN | apply Kd.R_drew)); exact HO_a0.out) hb)
               have n1_ := Aside0.mk (Kd.R_elder' (by (with_reducible repeat (first | apply Kd.R_alloc | apply Kd.R_drewN | apply Kd.R_drew)); exact HO_a1.out) (Kd.R_base ho154) hb)
               have n2_ := Aside0.mk (Kd.R_lower (Kd.R_new' ho154 (Kd.R_lt (by (with_reducible repeat (first | apply Kd.R_alloc | apply Kd.R_drewN | apply Kd.R_drew)); exact HO_a1.out))) (below_size (by repeat (first | (with_reducible first | exact HB.out | apply below_alloc | apply pw_below_drewN | apply below_drew1 | refine below_set ?_ GE225.out | refine below_set ?_ GE230.out | refine below_set ?_ GE232.out) | exact HB.out))))
               have n3_ := Aside0.mk (blk_below (g := gb225) (o := .cells #[.slice none 0 0, .slice none 0 0] 39 (0, 0)) (by (with_reducible repeat (first | refine blk_drewN ?_ _ | refine blk_drew ?_ | refine blk_alloc ?_ _)); exact BK225.out) hb)
               have n4_ := Aside0.mk (blk_below (g := gb230) (o := .cells #[.slice Ao31 xa0_1.length co31, .slice Ao151 xa1_1.length co151] 39 (0, 0)) (by (with_reducible repeat (first | refine blk_drewN ?_ _ | refine blk_drew ?_ | refine blk_alloc ?_ _)); exact BK230.out) hb)
               have n5_ := Aside0.mk (blk_below (g := gb232) (o := .cells #[.int .i32 ((rd_T66 l0 x19_1).f0), .int .i64 ((rd_T66 l0 x19_1).f1), .int .i64 ((rd_T66 l0 x19_1).f2)] 66 (0, 0)) (by (with_reducible repeat (first | refine blk_drewN ?_ _ | refine blk_drew ?_ | refine blk_alloc ?_ _)); exact BK232.out) hb)
               have n6_ := Aside0.mk (below_step (by repeat (first | (with_reducible first | exact HB.out | apply below_alloc | apply pw_below_drewN | apply below_drew1 | refine below_set ?_ GE225.out | refine below_set ?_ GE230.out | refine below_set ?_ GE232.out) | exact HB.out)) hb)
               clear HO_a0
               clear HO_a1
               clear BK225
               clear BK230
               clear BK232
               clear HB
               have HO_a0 := n0_
               have HO_a1 := n1_
               have HO267 := n2_
               have BK225 := n3_
               have BK230 := n4_
               have BK232 := n5_
               have HB := n6_
               clear n0_ n1_ n2_ n3_ n4_ n5_ n6_
               clear hb ho154
               refine hK.out _ _ ⟨(blk_cell BK230.out 0).trans rfl, (blk_cell BK230.out 1).trans rfl, (blk_cell BK232.out 0).trans rfl, (blk_cell BK232.out 1).trans rfl, (blk_cell BK232.out 2).trans rfl⟩ (fun hHeld => ?_)
               clear hK K
               refine norm_ (a' := ?_) ?_ ?_
               rotate_left
               ·show Act.put _ (some 37) _ = _
                simp only [Act.put, List.setIfInBounds_toArray, List.set_cons_zero, List.set_cons_succ, i64_w, i32_w]
                rfl
               refine one_ (i := 4) (N := some 33) #[true, true, true, true, true, false, true, true, true, false, false, false, false, false, false] rfl rfl (one_of HT_.out (by kernel_rfl)) (by decide) (fun K hK => ?_)
               refine Kd.R_lit_step (Kd.int .i32) _ 21 ?hg (N := 33) ?hd (xs := ([((rd_T66 l0 x19_1).f0)] : List Int)) (inner := [.int .i32 ((rd_T66 l0 x19_1).f0)]) (ok := fun _ => True) (okp := fun _ => True) ?hr ?hp (fun _ hk => hk) trivial (Below.refl _ _) (Nat.le_refl _) (by simp) ?_; (case hd => rfl); (case hg => rfl); (case hr => first | (go_simp; done) | (go_simp; rfl)); (case hp => exact (Reps.one (show Kd.M (Kd.int .i32) _ _ _ ((rd_T66 l0 x19_1).f0) [.int .i32 ((rd_T66 l0 x19_1).f0)] from rfl) (Reps.none _ _)))
               intro v260 w155 ho156 hb hg_ hnew_
               clear hg_ hnew_
               (first | rw [← Ny259.out] at ho156 | (simp only [Int.reduceToNat] at ho156; rw [← Ny259.out] at ho156))
               have n0_ := Aside0.mk (Kd.R_elder' (by (with_reducible repeat (first | apply Kd.R_alloc | apply Kd.R_drewN | apply Kd.R_drew)); exact HO_a0.out) (Kd.R_base ho156) hb)
               have n1_ := Aside0.mk (Kd.R_below (by (with_reducible repeat (first | apply Kd.R_alloc | apply Kd.R_drewN | apply Kd.R_drew)); exact HO_a1.out) hb)
               have n2_ := Aside0.mk (Kd.R_below (by (with_reducible repeat (first | apply Kd.R_alloc | apply Kd.R_drewN | apply Kd.R_drew)); exact HO267.out) hb)
               have n3_ := Aside0.mk (Kd.R_lower (Kd.R_new' ho156 (Kd.R_lt (by (with_reducible repeat (first | apply Kd.R_alloc | apply Kd.R_drewN | apply Kd.R_drew)); exact HO_a0.out))) (below_size (by repeat (first | (with_reducible first | exact HB.out | apply below_alloc | apply pw_below_drewN | apply below_drew1 | refine below_set ?_ GE225.out | refine below_set ?_ GE230.out | refine below_set ?_ GE232.out) | exact HB.out))))
               have n4_ := Aside0.mk (blk_below (g := gb225) (o := .cells #[.slice none 0 0, .slice none 0 0] 39 (0, 0)) (by (with_reducible repeat (first | refine blk_drewN ?_ _ | refine blk_drew ?_ | refine blk_alloc ?_ _)); exact BK225.out) hb)
               have n5_ := Aside0.mk (blk_below (g := gb230) (o := .cells #[.slice Ao31 xa0_1.length co31, .slice Ao151 xa1_1.length co151] 39 (0, 0)) (by (with_reducible repeat (first | refine blk_drewN ?_ _ | refine blk_drew ?_ | refine blk_alloc ?_ _)); exact BK230.out) hb)
               have n6_ := Aside0.mk (blk_below (g := gb232) (o := .cells #[.int .i32 ((rd_T66 l0 x19_1).f0), .int .i64 ((rd_T66 l0 x19_1).f1), .int .i64 ((rd_T66 l0 x19_1).f2)] 66 (0, 0)) (by (with_reducible repeat (first | refine blk_drewN ?_ _ | refine blk_drew ?_ | refine blk_alloc ?_ _)); exact BK232.out) hb)
               have n7_ := Aside0.mk (below_step (by repeat (first | (with_reducible first | exact HB.out | apply below_alloc | apply pw_below_drewN | apply below_drew1 | refine below_set ?_ GE225.out | refine below_set ?_ GE230.out | refine below_set ?_ GE232.out) | exact HB.out)) hb)
               clear HO_a0
               clear HO_a1
               clear HO267
               clear BK225
               clear BK230
               clear BK232
               clear HB
               have HO_a0 := n0_
               have HO_a1 := n1_
               have HO267 := n2_
               have HO261 := n3_
               have BK225 := n4_
               have BK230 := n5_
               have BK232 := n6_
               have HB := n7_
               clear n0_ n1_ n2_ n3_ n4_ n5_ n6_ n7_
               clear hb ho156
               obtain ⟨Ao158, co158, eo158⟩ := Kd.R_slice HO261.out
               (first | subst eo158 | (injection eo158 with f1_ f2_ f3_; have f4_ := f1_.symm; have f5_ := f3_.symm; clear f1_ f2_ f3_; subst f4_; subst f5_))
               refine hK.out _ _ ⟨(blk_cell BK230.out 0).trans rfl, (blk_cell BK230.out 1).trans rfl, (blk_cell BK232.out 0).trans rfl, (blk_cell BK232.out 1).trans rfl, (blk_cell BK232.out 2).trans rfl⟩ (fun hHeld => ?_)
               clear hK K
               refine norm_ (a' := ?_) ?_ ?_
               rotate_left
               ·show Act.put _ (some 33) _ = _
                simp only [Act.put, List.setIfInBounds_toArray, List.set_cons_zero, List.set_cons_succ, i64_w, i32_w]
                rfl
               refine one_ (i := 5) (N := some 34) #[true, true, true, true, true, true, true, true, true, false, false, false, false, false, false] rfl rfl (one_of HT_.out (by kernel_rfl)) (by decide) (fun K hK => ?_)
               refine Kd.R_append_rows_step (Kd.int .i32) (w0 := w) w.heap.size (by rfl) (.tmp 30) (.tmp 33) 23 21 (.int .i32 0) 4 rfl Try.underlying23 info21 rfl (by decide) (by omega) (.slice Ao31 xa0_1.length co31) xa0_1 y259 _ _ _ (fun k_ => some k_ ≠ (.slice Ao158 y259.length co158 : Value).ownBlock) (fun _ => False) rfl rfl ?aO ?aR (fun _ _ h => h) (fun _ h => h.elim) ?aF ?aB ?aS ?aL ?_
               (case aR => repeat (first | exact (Kd.R_reads' HO261.out).2.2 | (with_reducible refine Kd.C_alloc ?_ _) | (with_reducible refine Kd.C_drewN ?_ _) | (with_reducible refine Kd.C_drew ?_)))
               (case aB => exact (by repeat (first | (with_reducible first | exact HB.out | apply below_alloc | apply pw_below_drewN | apply below_drew1 | refine below_set ?_ GE225.out | refine below_set ?_ GE230.out | refine below_set ?_ GE232.out) | exact HB.out)))
               (case aF => exact (fun k_ hk => Kd.fresh' (Kd.R_lt (by (with_reducible repeat (first | apply Kd.R_alloc | apply Kd.R_drewN | apply Kd.R_drew)); exact HO261.out)) k_ hk))
               (case aO => exact (by (with_reducible repeat (first | apply Kd.R_alloc | apply Kd.R_drewN | apply Kd.R_drew)); exact Kd.R_mono HO_a0.out (fun _ hk => hk.2)))
               (case aS => exact (below_size (by repeat (first | (with_reducible first | exact HB.out | apply below_alloc | apply pw_below_drewN | apply below_drew1 | refine below_set ?_ GE225.out | refine below_set ?_ GE230.out | refine below_set ?_ GE232.out) | exact HB.out))))
               (case aL => have := LMc146.out; omega)
               intro v263 w157 ho hb hg hat
               rw [← Ny262.out] at ho
               have n0_ := Aside0.mk (Kd.R_over' (by (with_reducible repeat (first | apply Kd.R_alloc | apply Kd.R_drewN | apply Kd.R_drew)); exact HO_a1.out) (Kd.R_typed (by (with_reducible repeat (first | apply Kd.R_alloc | apply Kd.R_drewN | apply Kd.R_drew)); exact HO_a0.out)) (by decide) hg)
               have n1_ := Aside0.mk (blk_grown (g := gb225) (o := .cells #[.slice none 0 0, .slice none 0 0] 39 (0, 0)) (by (with_reducible repeat (first | refine blk_drewN ?_ _ | refine blk_drew ?_ | refine blk_alloc ?_ _)); exact BK225.out) hg (Kd.R_ne HO_a0.out BK225.out (by decide)))
               have n2_ := Aside0.mk (blk_grown (g := gb230) (o := .cells #[.slice Ao31 xa0_1.length co31, .slice Ao151 xa1_1.length co151] 39 (0, 0)) (by (with_reducible repeat (first | refine blk_drewN ?_ _ | refine blk_drew ?_ | refine blk_alloc ?_ _)); exact BK230.out) hg (Kd.R_ne HO_a0.out BK230.out (by decide)))
               have n3_ := Aside0.mk (blk_grown (g := gb232) (o := .cells #[.int .i32 ((rd_T66 l0 x19_1).f0), .int .i64 ((rd_T66 l0 x19_1).f1), .int .i64 ((rd_T66 l0 x19_1).f2)] 66 (0, 0)) (by (with_reducible repeat (first | refine blk_drewN ?_ _ | refine blk_drew ?_ | refine blk_alloc ?_ _)); exact BK232.out) hg (Kd.R_ne HO_a0.out BK232.out (by decide)))
               have n4_ := Aside0.mk (Kd.R_over' (by (with_reducible repeat (first | apply Kd.R_alloc | apply Kd.R_drewN | apply Kd.R_drew)); exact HO267.out) (Kd.R_typed (by (with_reducible repeat (first | apply Kd.R_alloc | apply Kd.R_drewN | apply Kd.R_drew)); exact HO_a0.out)) (by decide) hg)
               have n5_ := Aside0.mk (Kd.R_after (ok := (fun _ => True)) (by (with_reducible repeat (first | apply Kd.R_alloc | apply Kd.R_drewN | apply Kd.R_drew)); exact HO261.out) hg hat)
               have n6_ := Aside0.mk (hb)
               have n7_ := Aside0.mk (ho)
               clear HO_a1
               clear BK225
               clear BK230
               clear BK232
               clear HO267
               clear HO261
               clear HB
               clear HO_a0
               have HO_a1 := n0_
               have BK225 := n1_
               have BK230 := n2_
               have BK232 := n3_
               have HO267 := n4_
               have HO261 := n5_
               have HB := n6_
               have HO264 := n7_
               clear n0_ n1_ n2_ n3_ n4_ n5_ n6_ n7_
               clear ho hb hg hat
               refine hK.out _ _ ⟨(blk_cell BK230.out 0).trans rfl, (blk_cell BK230.out 1).trans rfl, (blk_cell BK232.out 0).trans rfl, (blk_cell BK232.out 1).trans rfl, (blk_cell BK232.out 2).trans rfl⟩ (fun hHeld => ?_)
               clear hK K
               refine norm_ (a' := ?_) ?_ ?_
               rotate_left
               ·show Act.put _ (some 34) _ = _
                simp only [Act.put, List.setIfInBounds_toArray, List.set_cons_zero, List.set_cons_succ, i64_w, i32_w]
                rfl
               refine pure_ (i := 10) (N := some 39) (v := ?_) (a' := ?_) #[true, true, true, true, true, true, true, true, true, false, true, false, false, false, false] rfl rfl (any_of HT_.out (by kernel_rfl)) (fun _ _ _ h => h) (Or.inl ⟨by rfl, ?_⟩) ?_ ?_
               rotate_left
               ·intro w'
                go_simp
                with_reducible rfl
               rotate_left
               ·simp only [Act.put, List.setIfInBounds_toArray, List.set_cons_zero, List.set_cons_succ, i64_w, i32_w]
                rfl
               exact norm_ (by simp only [putAll, Act.put, List.setIfInBounds_toArray, List.set_cons_zero, List.set_cons_succ]) (hCont (.slice Ao158 y259.length co158, v263, v266) _ ⟨hHeld, (by (with_reducible repeat (first | apply Kd.R_alloc | apply Kd.R_drewN | apply Kd.R_drew)); exact Kd.R_mono HO261.out (fun _ hk => hk.2)), (by (with_reducible repeat (first | apply Kd.R_alloc | apply Kd.R_drewN | apply Kd.R_drew)); exact HO264.out), (by (with_reducible repeat (first | apply Kd.R_alloc | apply Kd.R_drewN | apply Kd.R_drew)); exact Kd.R_mono HO267.out (fun _ hk => hk.2)), (by (with_reducible repeat (first | apply Kd.R_alloc | apply Kd.R_drewN | apply Kd.R_drew)); exact Kd.R_mono HO_a1.out (fun _ hk => hk.2)), (by (with_reducible repeat (first | refine blk_drewN ?_ _ | refine blk_drew ?_ | refine blk_alloc ?_ _)); exact BK225.out), (by (with_reducible repeat (first | refine blk_drewN ?_ _ | refine blk_drew ?_ | refine blk_alloc ?_ _)); exact BK230.out), (by (with_reducible repeat (first | refine blk_drewN ?_ _ | refine blk_drew ?_ | refine blk_alloc ?_ _)); exact BK232.out), (by repeat (first | (with_reducible first | exact HB.out | apply below_alloc | apply pw_below_drewN | apply below_drew1 | refine below_set ?_ GE225.out | refine below_set ?_ GE230.out | refine below_set ?_ GE232.out) | exact HB.out))⟩)
             rintro ⟨v260, v263, v266⟩ w159 ⟨hS_, h0_, h1_, h2_, h3_, h4_, h5_, h6_, h7_⟩
             have n0_ : Aside0 (Kd.R (Kd.int .i32) 21 w159 w.heap.size (fun k_ => some k_ ≠ (v263 : Value).ownBlock) v260 y259) := ⟨h0_⟩
             have n1_ : Aside0 (Kd.R (Kd.int .i32) 21 w159 w.heap.size (fun k_ => some k_ ≠ (v260 : Value).ownBlock) v263 y262) := ⟨h1_⟩
             have n2_ : Aside0 (Kd.R (Kd.int .u8) 5 w159 w.heap.size (fun k_ => some k_ ≠ (.slice Ao151 xa1_1.length co151 : Value).ownBlock) v266 y265) := ⟨h2_⟩
             have n3_ : Aside0 (Kd.R (Kd.int .u8) 5 w159 w.heap.size (fun k_ => some k_ ≠ (v266 : Value).ownBlock) (.slice Ao151 xa1_1.length co151) xa1_1) := ⟨h3_⟩
             have n4_ : Aside0 (w159.heap[gb225]? = some (.cells #[.slice none 0 0, .slice none 0 0] 39 (0, 0))) := ⟨h4_⟩
             have n5_ : Aside0 (w159.heap[gb230]? = some (.cells #[.slice Ao31 xa0_1.length co31, .slice Ao151 xa1_1.length co151] 39 (0, 0))) := ⟨h5_⟩
             have n6_ : Aside0 (w159.heap[gb232]? = some (.cells #[.int .i32 ((rd_T66 l0 x19_1).f0), .int .i64 ((rd_T66 l0 x19_1).f1), .int .i64 ((rd_T66 l0 x19_1).f2)] 66 (0, 0))) := ⟨h6_⟩
             have n7_ : Aside0 (Below w.heap.size w w159) := ⟨h7_⟩
             clear HO_a0
             clear HO_a1
             clear BK225
             clear BK230
             clear BK232
             clear HB
             clear h0_ h1_ h2_ h3_ h4_ h5_ h6_ h7_
             have HO261 := n0_
             have HO264 := n1_
             have HO267 := n2_
             have HO_a1 := n3_
             have BK225 := n4_
             have BK230 := n5_
             have BK232 := n6_
             have HB := n7_
             clear n0_ n1_ n2_ n3_ n4_ n5_ n6_ n7_
             have hHeld : w159.cell? ⟨gb230, 0, none⟩ = some (.slice Ao31 xa0_1.length co31) ∧ w159.cell? ⟨gb230, 1, none⟩ = some (.slice Ao151 xa1_1.length co151) ∧ w159.cell? ⟨gb232, 0, none⟩ = some (.int .i32 ((rd_T66 l0 x19_1).f0)) ∧ w159.cell? ⟨gb232, 1, none⟩ = some (.int .i64 ((rd_T66 l0 x19_1).f1)) ∧ w159.cell? ⟨gb232, 2, none⟩ = some (.int .i64 ((rd_T66 l0 x19_1).f2)) := hS_
             obtain ⟨Ao161, co161, eo161⟩ := Kd.R_slice HO267.out
             (first | subst eo161 | (injection eo161 with f1_ f2_ f3_; have f4_ := f1_.symm; have f5_ := f3_.symm; clear f1_ f2_ f3_; subst f4_; subst f5_))
             refine norm_ (a' := ?_) ?_ ?_
             rotate_left
             ·simp only [putAll, Act.put, List.setIfInBounds_toArray, List.set_cons_zero, List.set_cons_succ]
              rfl
             refine one_ (i := 9) (N := some 38) #[true, true, true, true, true, true, true, true, true, true, true, false, false, false, false] rfl rfl (one_of HT_.out (by kernel_rfl)) (by decide) (fun K hK => ?_)
             refine Kd.R_append_rows_step (Kd.int .u8) (w0 := w) w.heap.size (by rfl) (.tmp 36) (.tmp 37) 27 5 (.int .u8 0) 1 rfl Try.underlying27 info5 rfl (by decide) (by omega) (.slice Ao151 xa1_1.length co151) xa1_1 y265 _ _ _ (fun k_ => some k_ ≠ (.slice Ao161 y265.length co161 : Value).ownBlock) (fun _ => False) rfl rfl ?aO ?aR (fun _ _ h => h) (fun _ h => h.elim) ?aF ?aB ?aS ?aL ?_
             (case aR => repeat (first | exact (Kd.R_reads' HO267.out).2.2 | (with_reducible refine Kd.C_alloc ?_ _) | (with_reducible refine Kd.C_drewN ?_ _) | (with_reducible refine Kd.C_drew ?_)))
             (case aB => exact (by repeat (first | (with_reducible first | exact HB.out | apply below_alloc | apply pw_below_drewN | apply below_drew1 | refine below_set ?_ GE225.out | refine below_set ?_ GE230.out | refine below_set ?_ GE232.out) | exact HB.out)))
             (case aF => exact (fun k_ hk => Kd.fresh' (Kd.R_lt (by (with_reducible repeat (first | apply Kd.R_alloc | apply Kd.R_drewN | apply Kd.R_drew)); exact HO267.out)) k_ hk))
             (case aO => exact (by (with_reducible repeat (first | apply Kd.R_alloc | apply Kd.R_drewN | apply Kd.R_drew)); exact HO_a1.out))
             (case aS => exact (below_size (by repeat (first | (with_reducible first | exact HB.out | apply below_alloc | apply pw_below_drewN | apply below_drew1 | refine below_set ?_ GE225.out | refine below_set ?_ GE230.out | refine below_set ?_ GE232.out) | exact HB.out))))
             (case aL => have := LMc147.out; omega)
             intro v269 w160 ho hb hg hat
             rw [← Ny268.out] at ho
             have n0_ := Aside0.mk (blk_grown (g := gb225) (o := .cells #[.slice none 0 0, .slice none 0 0] 39 (0, 0)) (by (with_reducible repeat (first | refine blk_drewN ?_ _ | refine blk_drew ?_ | refine blk_alloc ?_ _)); exact BK225.out) hg (Kd.R_ne HO_a1.out BK225.out (by decide)))
             have n1_ := Aside0.mk (blk_grown (g := gb230) (o := .cells #[.slice Ao31 xa0_1.length co31, .slice Ao151 xa1_1.length co151] 39 (0, 0)) (by (with_reducible repeat (first | refine blk_drewN ?_ _ | refine blk_drew ?_ | refine blk_alloc ?_ _)); exact BK230.out) hg (Kd.R_ne HO_a1.out BK230.out (by decide)))
             have n2_ := Aside0.mk (blk_grown (g := gb232) (o := .cells #[.int .i32 ((rd_T66 l0 x19_1).f0), .int .i64 ((rd_T66 l0 x19_1).f1), .int .i64 ((rd_T66 l0 x19_1).f2)] 66 (0, 0)) (by (with_reducible repeat (first | refine blk_drewN ?_ _ | refine blk_drew ?_ | refine blk_alloc ?_ _)); exact BK232.out) hg (Kd.R_ne HO_a1.out BK232.out (by decide)))
             have n3_ := Aside0.mk (Kd.R_over' (by (with_reducible repeat (first | apply Kd.R_alloc | apply Kd.R_drewN | apply Kd.R_drew)); exact HO261.out) (Kd.R_typed (by (with_reducible repeat (first | apply Kd.R_alloc | apply Kd.R_drewN | apply Kd.R_drew)); exact HO_a1.out)) (by decide) hg)
             have n4_ := Aside0.mk (Kd.R_over' (by (with_reducible repeat (first | apply Kd.R_alloc | apply Kd.R_drewN | apply Kd.R_drew)); exact HO264.out) (Kd.R_typed (by (with_reducible repeat (first | apply Kd.R_alloc | apply Kd.R_drewN | apply Kd.R_drew)); exact HO_a1.out)) (by decide) hg)
             have n5_ := Aside0.mk (Kd.R_after (ok := (fun _ => True)) (by (with_reducible repeat (first | apply Kd.R_alloc | apply Kd.R_drewN | apply Kd.R_drew)); exact Kd.R_mono HO267.out (fun _ hk => ⟨trivial, hk⟩)) hg hat)
             have n6_ := Aside0.mk (hb)
             have n7_ := Aside0.mk (ho)
             clear BK225
             clear BK230
             clear BK232
             clear HO261
             clear HO264
             clear HO267
             clear HB
             clear HO_a1
             have BK225 := n0_
             have BK230 := n1_
             have BK232 := n2_
             have HO261 := n3_
             have HO264 := n4_
             have HO267 := n5_
             have HB := n6_
             have HO270 := n7_
             clear n0_ n1_ n2_ n3_ n4_ n5_ n6_ n7_
             clear ho hb hg hat
             obtain ⟨Ao162, co162, eo162⟩ := Kd.R_slice HO264.out
             (first | subst eo162 | (injection eo162 with f1_ f2_ f3_; have f4_ := f1_.symm; have f5_ := f3_.symm; clear f1_ f2_ f3_; subst f4_; subst f5_))
             obtain ⟨Ao164, co164, eo164⟩ := Kd.R_slice HO270.out
             (first | subst eo164 | (injection eo164 with f1_ f2_ f3_; have f4_ := f1_.symm; have f5_ := f3_.symm; clear f1_ f2_ f3_; subst f4_; subst f5_))
             refine hK.out _ _ ⟨(blk_cell BK230.out 0).trans rfl, (blk_cell BK230.out 1).trans rfl, (blk_cell BK232.out 0).trans rfl, (blk_cell BK232.out 1).trans rfl, (blk_cell BK232.out 2).trans rfl⟩ (fun hHeld => ?_)
             clear hK K
             refine norm_ (a' := ?_) ?_ ?_
             rotate_left
             ·show Act.put _ (some 38) _ = _
              simp only [Act.put, List.setIfInBounds_toArray, List.set_cons_zero, List.set_cons_succ, i64_w, i32_w]
              rfl
             refine last_ (i := 11) (N := none) #[true, true, true, true, true, true, true, true, true, true, true, true, false, false, false] rfl rfl (one_of HT_.out (by kernel_rfl)) (by decide) (fun K hK => ?_)
             have hs163 : w160.cell? ⟨gb230, 0, none⟩ = some (.slice Ao31 xa0_1.length co31) := (blk_cell BK230.out 0).trans rfl
             have hfs163 := blk_frozen BK230.out 0
             have hns163_0 := NB225_230.out
             have hns163_2 := NB232_230.out
             have hms163_0 := NB230_225.out
             have hms163_2 := NB230_232.out
             refine skip_ (w1 := ?_) (by rfl) rfl ?_ ?_
             rotate_left
             ·go_simp
              rfl
             refine hK.out _ _ ?_
             clear hK K
             refine pure_ (i := 12) (N := some 40) (v := ?_) (a' := ?_) #[true, true, true, true, true, true, true, true, true, true, true, true, true, false, false] rfl rfl (any_of HT_.out (by kernel_rfl)) (fun _ _ _ h => h) (Or.inl ⟨by rfl, ?_⟩) ?_ ?_
             rotate_left
             ·intro w'
              go_simp
              with_reducible rfl
             rotate_left
             ·simp only [Act.put, List.setIfInBounds_toArray, List.set_cons_zero, List.set_cons_succ, i64_w, i32_w]
              rfl
             refine last_ (i := 13) (N := none) #[true, true, true, true, true, true, true, true, true, true, true, true, true, true, false] rfl rfl (one_of HT_.out (by kernel_rfl)) (by decide) (fun K hK => ?_)
             have hs165 : w160.cell? ⟨gb230, 1, none⟩ = some (.slice Ao151 xa1_1.length co151) := (blk_cell BK230.out 1).trans rfl
             have hfs165 := blk_frozen BK230.out 1
             have hns165_0 := NB225_230.out
             have hns165_2 := NB232_230.out
             have hms165_0 := NB230_225.out
             have hms165_2 := NB230_232.out
             refine skip_ (w1 := ?_) (by rfl) rfl ?_ ?_
             rotate_left
             ·go_simp
              rfl
             refine hK.out _ _ ?_
             clear hK K
             refine pure_ (i := 14) (N := some 6) (v := ?_) (a' := ?_) #[true, true, true, true, true, true, true, true, true, true, true, true, true, true, true] rfl rfl (any_of HT_.out (by kernel_rfl)) (fun _ _ _ h => h) (Or.inl ⟨by rfl, ?_⟩) ?_ ?_
             rotate_left
             ·intro w'
              go_simp
              with_reducible rfl
             rotate_left
             ·simp only [Act.put, List.setIfInBounds_toArray, List.set_cons_zero, List.set_cons_succ, i64_w, i32_w]
              rfl
             refine done_ (done_of HT_.out (by kernel_rfl)) ?_
             try go_wp2
             go_roundg kj23
             case measure => have := HK1.out; have := HJ23.out; omega
             case rel => exact ⟨(false), (wrap64 (x7_1 + 1)), (wrap64 (x19_1 + 1)), (y262), (y268), (.slice Ao162 y262.length co162), (.slice Ao164 y268.length co164), (by first | rfl | (simp; done) | (simp [*]; done)), (by first | rfl | (simp; done) | (simp [*]; done)), (by first | rfl | (simp; done) | (simp [*]; done)), H', ⟨by have := HK1.out; have := HJ23.out; omega⟩, ⟨by (with_reducible repeat (first | apply Kd.R_alloc | apply Kd.R_drewN | apply Kd.R_drew)); exact Kd.R_mono (Kd.R_far (p := ⟨gb230, 1, none⟩) (Kd.R_far (p := ⟨gb230, 0, none⟩) (Kd.R_types HO264.out BK230.out (by decide)) (fun _ hk => hk.2) (.slice Ao162 y262.length co162)) (fun _ hk => hk.2) (.slice Ao164 y268.length co164)) (fun _ hk => trivial)⟩, ⟨by (with_reducible repeat (first | apply Kd.R_alloc | apply Kd.R_drewN | apply Kd.R_drew)); exact Kd.R_mono (Kd.R_far (p := ⟨gb230, 1, none⟩) (Kd.R_far (p := ⟨gb230, 0, none⟩) (Kd.R_types HO270.out BK230.out (by decide)) (fun _ hk => hk.2) (.slice Ao162 y262.length co162)) (fun _ hk => hk.2) (.slice Ao164 y268.length co164)) (fun _ hk => trivial)⟩, ⟨by (with_reducible repeat (first | refine blk_drewN ?_ _ | refine blk_drew ?_ | refine blk_alloc ?_ _)); refine blk_far ?_ NB225_230.out _; (with_reducible repeat (first | refine blk_drewN ?_ _ | refine blk_drew ?_ | refine blk_alloc ?_ _)); refine blk_far ?_ NB225_230.out _; (with_reducible repeat (first | refine blk_drewN ?_ _ | refine blk_drew ?_ | refine blk_alloc ?_ _)); exact BK225.out⟩, ⟨by (with_reducible repeat (first | refine blk_drewN ?_ _ | refine blk_drew ?_ | refine blk_alloc ?_ _)); refine blk_put (cs := #[.slice Ao162 y262.length co162, .slice Ao151 xa1_1.length co151]) ?_ 1 _ rfl; (with_reducible repeat (first | refine blk_drewN ?_ _ | refine blk_drew ?_ | refine blk_alloc ?_ _)); refine blk_put (cs := #[.slice Ao31 xa0_1.length co31, .slice Ao151 xa1_1.length co151]) ?_ 0 _ rfl; (with_reducible repeat (first | refine blk_drewN ?_ _ | refine blk_drew ?_ | refine blk_alloc ?_ _)); exact BK230.out⟩, ⟨by repeat (first | (with_reducible first | exact HB.out | apply below_alloc | apply pw_below_drewN | apply below_drew1 | refine below_set ?_ GE225.out | refine below_set ?_ GE230.out | refine below_set ?_ GE232.out) | exact HB.out)⟩⟩
            ·rw [if_neg c147] at H
             exact absurd H (by simp)
           ·rw [if_neg c146] at H
            exact absurd H (by simp)
     ·rw [if_neg c13] at H
      exact absurd H (by simp)
    ·rw [if_neg c12] at H
     exact absurd H (by simp)
   ·rw [if_neg c11] at H
    have c11b0 : decide (x19_1 < (l0.length : Int)) = false := decide_eq_false c11
    clear c11
    by_cases c166 : x7_1 > 0
    ·rw [if_pos c166] at H
     have c166b0 : decide (0 < x7_1) = true := decide_eq_true c166
     clear c166
     simp only [Option.some.injEq, Prod.mk.injEq] at H
     obtain ⟨rfl, rfl, rfl⟩ := H
     try go_wp2
     have n0_ := Aside0.mk (Kd.R_drew HO_a0.out)
     have n1_ := Aside0.mk (Kd.R_drew HO_a1.out)
     have n2_ := Aside0.mk (blk_drew BK225.out)
     have n3_ := Aside0.mk (blk_drew BK230.out)
     have n4_ := Aside0.mk (below_drew1 HB.out)
     clear HO_a0
     clear HO_a1
     clear BK225
     clear BK230
     clear HB
     have HO_a0 := n0_
     have HO_a1 := n1_
     have BK225 := n2_
     have BK230 := n3_
     have HB := n4_
     clear n0_ n1_ n2_ n3_ n4_
     obtain ⟨Ao168, co168, eo168⟩ := Kd.R_slice HO_a0.out
     (first | subst eo168 | (injection eo168 with f1_ f2_ f3_; have f4_ := f1_.symm; have f5_ := f3_.symm; clear f1_ f2_ f3_; subst f4_; subst f5_))
     obtain ⟨Ao170, co170, eo170⟩ := Kd.R_slice HO_a1.out
     (first | subst eo170 | (injection eo170 with f1_ f2_ f3_; have f4_ := f1_.symm; have f5_ := f3_.symm; clear f1_ f2_ f3_; subst f4_; subst f5_))
     refine start_ (n := 11) (S := fun w' => w'.cell? ⟨gb230, 0, none⟩ = some (.slice Ao168 xa0_1.length co168) ∧ w'.cell? ⟨gb230, 1, none⟩ = some (.slice Ao170 xa1_1.length co170)) (ds := []) #[false, false, false, false, false, false, false, false, false, false, false] (by kernel_rfl) rfl rfl ⟨(blk_cell BK230.out 0).trans rfl, (blk_cell BK230.out 1).trans rfl⟩ (fun hHeld => ?_); refine with_tabW pats_one.tab26 pats_one.bits26 (fun HT_ HW_ => ?_)
     generalize wr.drew = w167 at HO_a0 HO_a1 BK225 BK230 HB hHeld ⊢
     refine pure_ (i := 1) (N := some 130) (v := ?_) (a' := ?_) #[false, true, false, false, false, false, false, false, false, false, false] rfl rfl (any_of HT_.out (by kernel_rfl)) (fun _ _ _ h => h) (Or.inl ⟨by rfl, ?_⟩) ?_ ?_
     rotate_left
     ·intro w'
      go_simp
      with_reducible rfl
     rotate_left
     ·simp only [Act.put, List.setIfInBounds_toArray, List.set_cons_zero, List.set_cons_succ, i64_w, i32_w]
      rfl
     refine pure_ (i := 2) (N := some 131) (v := ?_) (a' := ?_) #[false, true, true, false, false, false, false, false, false, false, false] rfl rfl (any_of HT_.out (by kernel_rfl)) (fun _ _ _ h => h) (Or.inl ⟨by rfl, ?_⟩) ?_ ?_
     rotate_left
     ·intro w'
      go_simp
      with_reducible rfl
     rotate_left
     ·simp only [Act.put, List.setIfInBounds_toArray, List.set_cons_zero, List.set_cons_succ, i64_w, i32_w]
      rfl
     refine pure_ (i := 3) (N := some 132) (v := ?_) (a' := ?_) #[false, true, true, true, false, false, false, false, false, false, false] rfl rfl (any_of HT_.out (by kernel_rfl)) (fun _ _ _ h => h) (Or.inl ⟨by rfl, ?_⟩) ?_ ?_
     rotate_left
     ·intro w'
      go_simp
      with_reducible rfl
     rotate_left
     ·simp only [Act.put, List.setIfInBounds_toArray, List.set_cons_zero, List.set_cons_succ, i64_w, i32_w]
      rfl
     refine pure_ (i := 4) (N := some 133) (v := ?_) (a' := ?_) #[false, true, true, true, true, false, false, false, false, false, false] rfl rfl (any_of HT_.out (by kernel_rfl)) (fun _ _ _ h => h) (Or.inl ⟨by rfl, ?_⟩) ?_ ?_
     rotate_left
     ·intro w'
      go_simp
      with_reducible rfl
     rotate_left
     ·simp only [Act.put, List.setIfInBounds_toArray, List.set_cons_zero, List.set_cons_succ, i64_w, i32_w]
      rfl
     refine take_ (i := 0) (N := some 129) (v := ?_) (a' := ?_) #[true, true, true, true, true, false, false, false, false, false, false] rfl rfl (take_ofW HT_.out HW_.out (by kernel_rfl)) (fun _ _ _ h => h) (Or.inl ⟨by rfl, ?_⟩) hHeld ?_ ?_
     rotate_left
     ·rintro w' ⟨s0, s1⟩
      go_simp
      with_reducible rfl
     rotate_left
     ·simp only [Act.put, List.setIfInBounds_toArray, List.set_cons_zero, List.set_cons_succ, i64_w, i32_w]
      rfl
     refine take_ (i := 5) (N := some 134) (v := ?_) (a' := ?_) #[true, true, true, true, true, true, false, false, false, false, false] rfl rfl (take_ofW HT_.out HW_.out (by kernel_rfl)) (fun _ _ _ h => h) (Or.inl ⟨by rfl, ?_⟩) hHeld ?_ ?_
     rotate_left
     ·rintro w' ⟨s0, s1⟩
      go_simp
      with_reducible rfl
     rotate_left
     ·simp only [Act.put, List.setIfInBounds_toArray, List.set_cons_zero, List.set_cons_succ, i64_w, i32_w]
      rfl
     refine pure_ (i := 6) (N := some 135) (v := ?_) (a' := ?_) #[true, true, true, true, true, true, true, false, false, false, false] rfl rfl (any_of HT_.out (by kernel_rfl)) (fun _ _ _ h => h) (Or.inl ⟨by rfl, ?_⟩) ?_ ?_
     rotate_left
     ·intro w'
      go_simp
      with_reducible rfl
     rotate_left
     ·simp only [Act.put, List.setIfInBounds_toArray, List.set_cons_zero, List.set_cons_succ, i64_w, i32_w]
      rfl
     refine pure_ (i := 7) (N := some 136) (v := ?_) (a' := ?_) #[true, true, true, true, true, true, true, true, false, false, false] rfl rfl (any_of HT_.out (by kernel_rfl)) (fun _ _ _ h => h) (Or.inl ⟨by rfl, ?_⟩) ?_ ?_
     rotate_left
     ·intro w'
      go_simp
      with_reducible rfl
     rotate_left
     ·simp only [Act.put, List.setIfInBounds_toArray, List.set_cons_zero, List.set_cons_succ, i64_w, i32_w]
      rfl
     refine pure_ (i := 8) (N := some 137) (v := ?_) (a' := ?_) #[true, true, true, true, true, true, true, true, true, false, false] rfl rfl (any_of HT_.out (by kernel_rfl)) (fun _ _ _ h => h) (Or.inl ⟨by rfl, ?_⟩) ?_ ?_
     rotate_left
     ·intro w'
      go_simp
      with_reducible rfl
     rotate_left
     ·simp only [Act.put, List.setIfInBounds_toArray, List.set_cons_zero, List.set_cons_succ, i64_w, i32_w]
      rfl
     refine one_ (i := 9) (N := none) #[true, true, true, true, true, true, true, true, true, true, false] rfl rfl (one_of HT_.out (by kernel_rfl)) (by decide) (fun K hK => ?_)
     have hs169 : w167.cell? ⟨gb225, 0, none⟩ = some (.slice none 0 0) := (blk_cell BK225.out 0).trans rfl
     have hfs169 := blk_frozen BK225.out 0
     have hns169_1 := NB230_225.out
     have hms169_1 := NB225_230.out
     have hs171 : w167.cell? ⟨gb225, 1, none⟩ = some (.slice none 0 0) := (blk_cell BK225.out 1).trans rfl
     have hfs171 := blk_frozen BK225.out 1
     have hns171_1 := NB230_225.out
     have hms171_1 := NB225_230.out
     refine skip_ (w1 := ?_) (by rfl) rfl ?_ ?_
     rotate_left
     ·go_simp
      rfl
     refine hK.out _ _ ⟨((cell_far (p := ⟨gb225, _, none⟩) NB230_225.out _).trans (((cell_far (p := ⟨gb225, _, none⟩) NB230_225.out _).trans (hHeld.1)))), ((cell_far (p := ⟨gb225, _, none⟩) NB230_225.out _).trans (((cell_far (p := ⟨gb225, _, none⟩) NB230_225.out _).trans (hHeld.2))))⟩ (fun hHeld => ?_)
     clear hK K
     refine pure_ (i := 10) (N := some 3) (v := ?_) (a' := ?_) #[true, true, true, true, true, true, true, true, true, true, true] rfl rfl (any_of HT_.out (by kernel_rfl)) (fun _ _ _ h => h) (Or.inl ⟨by rfl, ?_⟩) ?_ ?_
     rotate_left
     ·intro w'
      go_simp
      with_reducible rfl
     rotate_left
     ·simp only [Act.put, List.setIfInBounds_toArray, List.set_cons_zero, List.set_cons_succ, i64_w, i32_w]
      rfl
     refine done_ (done_of HT_.out (by kernel_rfl)) ?_
     try go_wp2
     refine bodyPost_ret (results_ct rfl _ _ gb225 39 #[.slice Ao168 xa0_1.length co168, .slice Ao170 xa1_1.length co170] (0, 0) _ rfl (by (with_reducible repeat (first | refine blk_drewN ?_ _ | refine blk_drew ?_ | refine blk_alloc ?_ _)); refine blk_put (cs := #[.slice Ao168 xa0_1.length co168, .slice none 0 0]) ?_ 1 _ rfl; (with_reducible repeat (first | refine blk_drewN ?_ _ | refine blk_drew ?_ | refine blk_alloc ?_ _)); refine blk_put (cs := #[.slice none 0 0, .slice none 0 0]) ?_ 0 _ rfl; (with_reducible repeat (first | refine blk_drewN ?_ _ | refine blk_drew ?_ | refine blk_alloc ?_ _)); exact BK225.out) Try.underlying39 rfl (by kernel_rfl)) rfl ?_
     exact ⟨_, _, by first | rfl | (simp [errW_none, errW_some] <;> rfl) | (simp [*, errW_none, errW_some] <;> rfl), by (with_reducible repeat (first | apply Kd.R_alloc | apply Kd.R_drewN | apply Kd.R_drew)); exact Kd.R_mono (Kd.R_far (p := ⟨gb225, 1, none⟩) (Kd.R_far (p := ⟨gb225, 0, none⟩) (Kd.R_types HO_a0.out BK225.out (by decide)) (fun _ hk => hk.2) (.slice Ao168 xa0_1.length co168)) (fun _ hk => hk.2) (.slice Ao170 xa1_1.length co170)) (fun _ hk => trivial), by (with_reducible repeat (first | apply Kd.R_alloc | apply Kd.R_drewN | apply Kd.R_drew)); exact Kd.R_mono (Kd.R_far (p := ⟨gb225, 1, none⟩) (Kd.R_far (p := ⟨gb225, 0, none⟩) (Kd.R_types HO_a1.out BK225.out (by decide)) (fun _ hk => hk.2) (.slice Ao168 xa0_1.length co168)) (fun _ hk => hk.2) (.slice Ao170 xa1_1.length co170)) (fun _ hk => trivial), by repeat (first | (with_reducible first | exact HB.out | apply below_alloc | apply pw_below_drewN | apply below_drew1 | refine below_set ?_ GE225.out | refine below_set ?_ GE230.out) | exact HB.out)⟩
    ·rw [if_neg c166] at H
     have c166b0 : decide (0 < x7_1) = false := decide_eq_false c166
     clear c166
     simp only [Option.some.injEq, Prod.mk.injEq] at H
     obtain ⟨rfl, rfl, rfl⟩ := H
     try go_wp2
     have n0_ := Aside0.mk (Kd.R_drew HO_a0.out)
     have n1_ := Aside0.mk (Kd.R_drew HO_a1.out)
     have n2_ := Aside0.mk (blk_drew BK225.out)
     have n3_ := Aside0.mk (blk_drew BK230.out)
     have n4_ := Aside0.mk (below_drew1 HB.out)
     clear HO_a0
     clear HO_a1
     clear BK225
     clear BK230
     clear HB
     have HO_a0 := n0_
     have HO_a1 := n1_
     have BK225 := n2_
     have BK230 := n3_
     have HB := n4_
     clear n0_ n1_ n2_ n3_ n4_
     obtain ⟨Ao173, co173, eo173⟩ := Kd.R_slice HO_a0.out
     (first | subst eo173 | (injection eo173 with f1_ f2_ f3_; have f4_ := f1_.symm; have f5_ := f3_.symm; clear f1_ f2_ f3_; subst f4_; subst f5_))
     obtain ⟨Ao175, co175, eo175⟩ := Kd.R_slice HO_a1.out
     (first | subst eo175 | (injection eo175 with f1_ f2_ f3_; have f4_ := f1_.symm; have f5_ := f3_.symm; clear f1_ f2_ f3_; subst f4_; subst f5_))
     refine start_ (n := 11) (S := fun w' => w'.cell? ⟨gb230, 0, none⟩ = some (.slice Ao173 xa0_1.length co173) ∧ w'.cell? ⟨gb230, 1, none⟩ = some (.slice Ao175 xa1_1.length co175)) (ds := []) #[false, false, false, false, false, false, false, false, false, false, false] (by kernel_rfl) rfl rfl ⟨(blk_cell BK230.out 0).trans rfl, (blk_cell BK230.out 1).trans rfl⟩ (fun hHeld => ?_); refine with_tabW pats_one.tab26 pats_one.bits26 (fun HT_ HW_ => ?_)
     generalize wr.drew = w172 at HO_a0 HO_a1 BK225 BK230 HB hHeld ⊢
     refine pure_ (i := 1) (N := some 130) (v := ?_) (a' := ?_) #[false, true, false, false, false, false, false, false, false, false, false] rfl rfl (any_of HT_.out (by kernel_rfl)) (fun _ _ _ h => h) (Or.inl ⟨by rfl, ?_⟩) ?_ ?_
     rotate_left
     ·intro w'
      go_simp
      with_reducible rfl
     rotate_left
     ·simp only [Act.put, List.setIfInBounds_toArray, List.set_cons_zero, List.set_cons_succ, i64_w, i32_w]
      rfl
     refine pure_ (i := 2) (N := some 131) (v := ?_) (a' := ?_) #[false, true, true, false, false, false, false, false, false, false, false] rfl rfl (any_of HT_.out (by kernel_rfl)) (fun _ _ _ h => h) (Or.inl ⟨by rfl, ?_⟩) ?_ ?_
     rotate_left
     ·intro w'
      go_simp
      with_reducible rfl
     rotate_left
     ·simp only [Act.put, List.setIfInBounds_toArray, List.set_cons_zero, List.set_cons_succ, i64_w, i32_w]
      rfl
     refine pure_ (i := 3) (N := some 132) (v := ?_) (a' := ?_) #[false, true, true, true, false, false, false, false, false, false, false] rfl rfl (any_of HT_.out (by kernel_rfl)) (fun _ _ _ h => h) (Or.inl ⟨by rfl, ?_⟩) ?_ ?_
     rotate_left
     ·intro w'
      go_simp
      with_reducible rfl
     rotate_left
     ·simp only [Act.put, List.setIfInBounds_toArray, List.set_cons_zero, List.set_cons_succ, i64_w, i32_w]
      rfl
     refine pure_ (i := 4) (N := some 133) (v := undef) (a' := ?_) #[false, true, true, true, true, false, false, false, false, false, false] rfl rfl (any_of HT_.out (by kernel_rfl)) (fun _ _ _ h => h) (Or.inr ⟨by rfl, rfl⟩) ?_ ?_
     rotate_left
     ·simp only [Act.put, List.setIfInBounds_toArray, List.set_cons_zero, List.set_cons_succ, i64_w, i32_w]
      rfl
     refine pure_ (i := 5) (N := some 134) (v := undef) (a' := ?_) #[false, true, true, true, true, true, false, false, false, false, false] rfl rfl (any_of HT_.out (by kernel_rfl)) (fun _ _ _ h => h) (Or.inr ⟨by rfl, rfl⟩) ?_ ?_
     rotate_left
     ·simp only [Act.put, List.setIfInBounds_toArray, List.set_cons_zero, List.set_cons_succ, i64_w, i32_w]
      rfl
     refine pure_ (i := 6) (N := some 135) (v := undef) (a' := ?_) #[false, true, true, true, true, true, true, false, false, false, false] rfl rfl (any_of HT_.out (by kernel_rfl)) (fun _ _ _ h => h) (Or.inr ⟨by rfl, rfl⟩) ?_ ?_
     rotate_left
     ·simp only [Act.put, List.setIfInBounds_toArray, List.set_cons_zero, List.set_cons_succ, i64_w, i32_w]
      rfl
     refine pure_ (i := 7) (N := some 136) (v := undef) (a' := ?_) #[false, true, true, true, true, true, true, true, false, false, false] rfl rfl (any_of HT_.out (by kernel_rfl)) (fun _ _ _ h => h) (Or.inr ⟨by rfl, rfl⟩) ?_ ?_
     rotate_left
     ·simp only [Act.put, List.setIfInBounds_toArray, List.set_cons_zero, List.set_cons_succ, i64_w, i32_w]
      rfl
     refine pure_ (i := 8) (N := some 137) (v := ?_) (a' := ?_) #[false, true, true, true, true, true, true, true, true, false, false] rfl rfl (any_of HT_.out (by kernel_rfl)) (fun _ _ _ h => h) (Or.inl ⟨by rfl, ?_⟩) ?_ ?_
     rotate_left
     ·intro w'
      go_simp
      with_reducible rfl
     rotate_left
     ·simp only [Act.put, List.setIfInBounds_toArray, List.set_cons_zero, List.set_cons_succ, i64_w, i32_w]
      rfl
     refine take_ (i := 0) (N := some 129) (v := ?_) (a' := ?_) #[true, true, true, true, true, true, true, true, true, false, false] rfl rfl (take_ofW HT_.out HW_.out (by kernel_rfl)) (fun _ _ _ h => h) (Or.inl ⟨by rfl, ?_⟩) hHeld ?_ ?_
     rotate_left
     ·rintro w' ⟨s0, s1⟩
      go_simp
      with_reducible rfl
     rotate_left
     ·simp only [Act.put, List.setIfInBounds_toArray, List.set_cons_zero, List.set_cons_succ, i64_w, i32_w]
      rfl
     refine one_ (i := 9) (N := none) #[true, true, true, true, true, true, true, true, true, true, false] rfl rfl (one_of HT_.out (by kernel_rfl)) (by decide) (fun K hK => ?_)
     have hs174 : w172.cell? ⟨gb225, 0, none⟩ = some (.slice none 0 0) := (blk_cell BK225.out 0).trans rfl
     have hfs174 := blk_frozen BK225.out 0
     have hns174_1 := NB230_225.out
     have hms174_1 := NB225_230.out
     have hs176 : w172.cell? ⟨gb225, 1, none⟩ = some (.slice none 0 0) := (blk_cell BK225.out 1).trans rfl
     have hfs176 := blk_frozen BK225.out 1
     have hns176_1 := NB230_225.out
     have hms176_1 := NB225_230.out
     refine skip_ (w1 := ?_) (by rfl) rfl ?_ ?_
     rotate_left
     ·go_simp
      rfl
     refine hK.out _ _ ⟨((cell_far (p := ⟨gb225, _, none⟩) NB230_225.out _).trans (((cell_far (p := ⟨gb225, _, none⟩) NB230_225.out _).trans (hHeld.1)))), ((cell_far (p := ⟨gb225, _, none⟩) NB230_225.out _).trans (((cell_far (p := ⟨gb225, _, none⟩) NB230_225.out _).trans (hHeld.2))))⟩ (fun hHeld => ?_)
     clear hK K
     refine pure_ (i := 10) (N := some 3) (v := ?_) (a' := ?_) #[true, true, true, true, true, true, true, true, true, true, true] rfl rfl (any_of HT_.out (by kernel_rfl)) (fun _ _ _ h => h) (Or.inl ⟨by rfl, ?_⟩) ?_ ?_
     rotate_left
     ·intro w'
      go_simp
      with_reducible rfl
     rotate_left
     ·simp only [Act.put, List.setIfInBounds_toArray, List.set_cons_zero, List.set_cons_succ, i64_w, i32_w]
      rfl
     refine done_ (done_of HT_.out (by kernel_rfl)) ?_
     try go_wp2
     refine bodyPost_ret (results_ct rfl _ _ gb225 39 #[.slice Ao173 xa0_1.length co173, .slice Ao175 xa1_1.length co175] (0, 0) _ rfl (by (with_reducible repeat (first | refine blk_drewN ?_ _ | refine blk_drew ?_ | refine blk_alloc ?_ _)); refine blk_put (cs := #[.slice Ao173 xa0_1.length co173, .slice none 0 0]) ?_ 1 _ rfl; (with_reducible repeat (first | refine blk_drewN ?_ _ | refine blk_drew ?_ | refine blk_alloc ?_ _)); refine blk_put (cs := #[.slice none 0 0, .slice none 0 0]) ?_ 0 _ rfl; (with_reducible repeat (first | refine blk_drewN ?_ _ | refine blk_drew ?_ | refine blk_alloc ?_ _)); exact BK225.out) Try.underlying39 rfl (by kernel_rfl)) rfl ?_
     exact ⟨_, _, by first | rfl | (simp [errW_none, errW_some] <;> rfl) | (simp [*, errW_none, errW_some] <;> rfl), by (with_reducible repeat (first | apply Kd.R_alloc | apply Kd.R_drewN | apply Kd.R_drew)); exact Kd.R_mono (Kd.R_far (p := ⟨gb225, 1, none⟩) (Kd.R_far (p := ⟨gb225, 0, none⟩) (Kd.R_types HO_a0.out BK225.out (by decide)) (fun _ hk => hk.2) (.slice Ao173 xa0_1.length co173)) (fun _ hk => hk.2) (.slice Ao175 xa1_1.length co175)) (fun _ hk => trivial), by (with_reducible repeat (first | apply Kd.R_alloc | apply Kd.R_drewN | apply Kd.R_drew)); exact Kd.R_mono (Kd.R_far (p := ⟨gb225, 1, none⟩) (Kd.R_far (p := ⟨gb225, 0, none⟩) (Kd.R_types HO_a1.out BK225.out (by decide)) (fun _ hk => hk.2) (.slice Ao173 xa0_1.length co173)) (fun _ hk => hk.2) (.slice Ao175 xa1_1.length co175)) (fun _ hk => trivial), by repeat (first | (with_reducible first | exact HB.out | apply below_alloc | apply pw_below_drewN | apply below_drew1 | refine below_set ?_ GE225.out | refine below_set ?_ GE230.out) | exact HB.out)⟩
end Go.Proofs.Ytoefjhdcipgacaa.PA
end
