/-
 Part 7 of what the law HyphPoints rests on: contracts of the functions that it calls, and plain laws of what they compute.
-/
import Derived.Test.YtoefjhdcipgacaaHP6
section
namespace Go.Proofs.Ytoefjhdcipgacaa.PA
open Go.RowKit Go.Proofs.YtoefjhdcipgacaaW.PrintWords Go.Proofs.YtoefjhdcipgacaaW.PrintLast Go.Proofs.YtoefjhdcipgacaaW.PrintMore
attribute [local go_sem] max2_int min2_int max_two min_two max_three min_three max_four min_four   -- for this text's walks alone
set_option linter.unusedVariables false
set_option linter.unusedSimpArgs false
mutual
def stanzaref07_pattern.l0 : Nat → List Int → Bool → Int → Int → List Int → List Int → Option (List Int × List Int × Bool)
 | 0, _, _, _, _, _, _ => none
 | k + 1, x0, x1, x7, x8, b5, b8 => if x8 < (x0.length : Int) then (if 0 ≤ x8 then (if x1 = true then (stanzaref07_pattern.j1 k x0 x1 x7 x8 0 (rd x0 x8) false b5 b8) else (if (rd x0 x8) ≥ 48 then (stanzaref07_pattern.j1 k x0 x1 x7 x8 0 (rd x0 x8) (decide ((rd x0 x8) ≤ 57)) b5 b8) else (stanzaref07_pattern.j1 k x0 x1 x7 x8 0 (rd x0 x8) false b5 b8))) else (none)) else (stanzaref07_pattern.j3 k x0 x1 x7 x8 0 b5 b8)
def stanzaref07_pattern.j3 : Nat → List Int → Bool → Int → Int → Int → List Int → List Int → Option (List Int × List Int × Bool)
 | 0, _, _, _, _, _, _, _ => none
 | k + 1, x0, x1, x7, x8, x9, b5, b8 => if b8.length < 140737488355328 then ((some (b8 ++ [x9] : List Int)).bind fun a8 => (if x8 = (x0.length : Int) then (if x7 > 0 then (some (b5, a8, decide ((b5.length : Int) ≤ 24))) else (some (b5, a8, false))) else (if 0 ≤ x8 then (if x8 < (x0.length : Int) then (if (rd x0 x8) = 45 then (stanzaref07_pattern.j4 k x0 x1 x7 x8 (rd x0 x8) true b5 a8) else (if (rd x0 x8) ≥ 48 then (if (rd x0 x8) ≤ 57 then (stanzaref07_pattern.j4 k x0 x1 x7 x8 (rd x0 x8) true b5 a8) else (stanzaref07_pattern.j4 k x0 x1 x7 x8 (rd x0 x8) ((rd x0 x8) == 65533) b5 a8)) else (stanzaref07_pattern.j4 k x0 x1 x7 x8 (rd x0 x8) ((rd x0 x8) == 65533) b5 a8))) else (none)) else (none)))) else (none)
def stanzaref07_pattern.j4 : Nat → List Int → Bool → Int → Int → Int → Bool → List Int → List Int → Option (List Int × List Int × Bool)
 | 0, _, _, _, _, _, _, _, _ => none
 | k + 1, x0, x1, x7, x8, q3, I5, b5, b8 => if I5 = true then (some (b5, b8, false)) else (if q3 = 46 then (if x1 = true then (some (b5, b8, false)) else (if x8 = 0 then (if b5.length < 35184372088832 then (stanzaref07_pattern.l0 k x0 x1 x7 (wrap64 (x8 + 1)) (b5 ++ [q3]) b8) else (none)) else (if x8 = (wrap64 ((x0.length : Int) - 1)) then (if b5.length < 35184372088832 then (stanzaref07_pattern.l0 k x0 x1 x7 (wrap64 (x8 + 1)) (b5 ++ [q3]) b8) else (none)) else (some (b5, b8, false))))) else (if b5.length < 35184372088832 then (stanzaref07_pattern.l0 k x0 x1 (wrap64 (x7 + 1)) (wrap64 (x8 + 1)) (b5 ++ [q3]) b8) else (none)))
def stanzaref07_pattern.j1 : Nat → List Int → Bool → Int → Int → Int → Int → Bool → List Int → List Int → Option (List Int × List Int × Bool)
 | 0, _, _, _, _, _, _, _, _, _ => none
 | k + 1, x0, x1, x7, x8, x9, z5, I6, b5, b8 => if I6 = true then (stanzaref07_pattern.j3 k x0 x1 x7 (wrap64 (x8 + 1)) ((wrap32 (z5 - 48)) % 256) b5 b8) else (if x1 = true then (stanzaref07_pattern.j2 k x0 x1 x7 x8 x9 (z5 == 45) b5 b8) else (stanzaref07_pattern.j2 k x0 x1 x7 x8 x9 false b5 b8))
def stanzaref07_pattern.j2 : Nat → List Int → Bool → Int → Int → Int → Bool → List Int → List Int → Option (List Int × List Int × Bool)
 | 0, _, _, _, _, _, _, _, _ => none
 | k + 1, x0, x1, x7, x8, x9, I7, b5, b8 => if I7 = true then (if x8 = 0 then (some (b5, b8, false)) else (if x8 = (wrap64 ((x0.length : Int) - 1)) then (some (b5, b8, false)) else (stanzaref07_pattern.j3 k x0 x1 x7 (wrap64 (x8 + 1)) 1 b5 b8))) else (stanzaref07_pattern.j3 k x0 x1 x7 x8 x9 b5 b8)
end
def stanzaref07_pattern.f (k : Nat) (l0 : List Int) (a1 : Bool) : Option (List Int × List Int × Bool) := stanzaref07_pattern.l0 k l0 a1 0 0 ([] : List Int) ([] : List Int)
def stanzaref07_pattern.T26 : Bool × List (List Nat × List Nat) := (true, [([], []), ([], []), ([1], [1]), ([2], [2]), ([3], [3]), ([4, 3], [3, 4]), ([5, 3], [3, 5]), ([6, 3], [3, 6]), ([3, 7], [3, 7]), ([0, 3, 0], [0]), ([8, 9, 0, 1, 2, 3, 4, 5, 6, 7, 8, 9], [8])])
def stanzaref07_pattern.B26 : List Nat := [0, 0, 2, 6, 14, 30, 62, 126, 254, 15, 1023]
theorem stanzaref07_pattern.tab26 : rtab .any (opsOf Try.f57 26) = stanzaref07_pattern.T26 := by kernel_rfl
theorem stanzaref07_pattern.bits26 : waitsOk stanzaref07_pattern.T26.2 stanzaref07_pattern.B26 = true := by kernel_rfl
set_option maxHeartbeats 8000000 in
set_option maxRecDepth 100000 in
theorem stanzaref07_pattern.calls (k : Nat) (A0 : Option Addr) (c0 : Nat) (l0 : List Int) (a1 : Bool) (r1 : List Int) (r2 : List Int) (r3 : Bool) (w : World) (z6 : Kd.C (Kd.int .i32) w A0 l0.length l0) (z7 : l0.length ≤ c0) (h : stanzaref07_pattern.f k l0 a1 = some (r1, r2, r3)) :
  Calls Try.prog 57 #[.slice A0 l0.length c0, .bool a1] w fun e w' => ∃ z8 z9 : Value, e = .returned (.tuple #[.agg #[z8, z9], .bool r3]) ∧ Kd.R (Kd.int .i32) 21 w' w.heap.size (fun _ => True) z8 r1 ∧ Kd.R (Kd.int .u8) 5 w' w.heap.size (fun _ => True) z9 r2 ∧ Below w.heap.size w w' := by
 have hu39 := Try.underlying39
 have A1 := Aside0.mk z6
 have N2 := Aside0.mk z7
 clear z6 z7
 have HB := Aside0.mk (Below.refl w.heap.size w)
 have H : (stanzaref07_pattern.l0 k l0 a1 0 0 ([] : List Int) ([] : List Int)) = some (r1, r2, r3) := h
 clear h
 have H' := Aside0.mk H
 clear H
 go_enter Try.func57, Try.ntmps57
 go_wp2_with (first | ((with_reducible refine gate_dst (N := 4) rfl ?_); (try (refine gate_guard (by rfl) ?_; dsimp only)); refine box_event ?hg (N := 4) ?hd (cs := #[.slice none 0 0, .slice none 0 0]) (t := 39) ?hr ?_; (case hd => rfl); (case hg => rfl); (case hr => first | (go_simp; done) | (go_simp; rfl)); intro b0 hg w3 hbox hb; have d2 := Aside0.mk (below_step (HB.out) hb); have d3 := Aside0.mk (hbox); have d4 := Aside0.mk ((by rw [hg]; exact (below_size (HB.out)) : w.heap.size ≤ b0)); have d5 := Aside0.mk ((by rw [hg]; exact (below_size (HB.out)) : w.heap.size ≤ b0)); clear HB; have HB := d2; have a5 := d3; have J5 := d4; have d7 := d5; clear d2 d3 d4 d5; clear hb hbox hg) | ((with_reducible refine gate_dst (N := 6) rfl ?_); (try (refine gate_guard (by rfl) ?_; dsimp only)); refine box_event ?hg (N := 6) ?hd (cs := #[.slice none 0 0, .slice none 0 0]) (t := 39) ?hr ?_; (case hd => rfl); (case hg => rfl); (case hr => first | (go_simp; done) | (go_simp; rfl)); intro a7 hg w4 hbox hb; have d2 := Aside0.mk (blk_below a5.out hb); have d3 := Aside0.mk (below_step (HB.out) hb); have d4 := Aside0.mk (hbox); have d5 := Aside0.mk ((by rw [hg]; exact (below_size (HB.out)) : w.heap.size ≤ a7)); have d6 := Aside0.mk ((by rw [hg]; exact (below_size (HB.out)) : w.heap.size ≤ a7)); have A2 := Aside0.mk ((by rw [hg]; exact Nat.ne_of_lt (blk_lt a5.out) : b0 ≠ a7)); have A3 := Aside0.mk ((by rw [hg]; exact Nat.ne_of_gt (blk_lt a5.out) : a7 ≠ b0)); clear a5; clear HB; have a5 := d2; have HB := d3; have a3 := d4; have w5 := d5; have d8 := d6; have b3 := A2; have b4 := A3; clear d2 d3 d4 d5 d6 A2 A3; clear hb hbox hg; have M3 := b4.out; have M4 := b3.out; have f6 : w4.cell? ⟨a7, 0, none⟩ = some (.slice none 0 0) := (blk_cell a3.out 0).trans rfl; have f7 : w4.cell? ⟨a7, 1, none⟩ = some (.slice none 0 0) := (blk_cell a3.out 1).trans rfl; have f8 := blk_frozen a3.out 0; have f9 := blk_frozen a3.out 1))
 go_loopg [7, 8] k (fun kq v7 v8 w' => ∃ (b9 : Int) (b6 : Int) (a2 : List Int) (b2 : List Int) (b1 : Value) (b7 : Value), v7 = .int .i64 b9 ∧ v8 = .int .i64 b6 ∧ Aside0 (stanzaref07_pattern.l0 kq l0 a1 b9 b6 a2 b2 = some (r1, r2, r3)) ∧ Aside0 (kq ≤ k) ∧ Aside0 (Kd.R (Kd.int .i32) 21 w' w.heap.size (fun _ => True) b1 a2) ∧ Aside0 (Kd.R (Kd.int .u8) 5 w' w.heap.size (fun _ => True) b7 b2) ∧ Aside0 (w'.heap[b0]? = some (.cells #[(.slice none 0 0), (.slice none 0 0)] 39 (0, 0))) ∧ Aside0 (w'.heap[a7]? = some (.cells #[b1, b7] 39 (0, 0))) ∧ Aside0 (Below w.heap.size w w'))
 case atStart => exact ⟨(0), (0), (([] : List Int)), (([] : List Int)), (.slice none 0 0), (.slice none 0 0), (rfl), (rfl), H', ⟨Nat.le_refl _⟩, ⟨by first | exact Kd.R_nil _ _ _ _ _ | exact Kd.N_nil _ _ _ _ _ | exact Kd.V_nil _ _ _ _ _ | exact Kd.Q_nil _ _ _ _ _ | exact Kd.S_nil _ _ _ _ _⟩, ⟨by first | exact Kd.R_nil _ _ _ _ _ | exact Kd.N_nil _ _ _ _ _ | exact Kd.V_nil _ _ _ _ _ | exact Kd.Q_nil _ _ _ _ _ | exact Kd.S_nil _ _ _ _ _⟩, ⟨by refine blk_far ?_ b3.out _; refine blk_far ?_ b3.out _; exact a5.out⟩, ⟨by refine blk_put (cs := #[.slice none 0 0, .slice none 0 0]) ?_ 1 _ rfl; refine blk_put (cs := #[.slice none 0 0, .slice none 0 0]) ?_ 0 _ rfl; exact a3.out⟩, ⟨by repeat (first | (with_reducible first | exact HB.out | apply below_alloc | apply pw_below_drewN | apply below_drew1 | refine below_set ?_ d7.out | refine below_set ?_ d8.out) | exact HB.out)⟩⟩
 case round =>
  clear H'
  try clear p2
  try clear c5
  try clear f6
  try clear f7
  try clear f8
  try clear f9
  obtain ⟨b9, b6, a2, b2, b1, b7, rfl, rfl, HA, d9, a4, a6, a5, a3, HB⟩ := hrel
  cases gk with
  | zero => exact absurd HA.out (by simp [stanzaref07_pattern.l0])
  | succ k1 =>
   have H := HA.out
   clear HA
   simp only [stanzaref07_pattern.l0] at H
   have u7 := Aside0.mk H
   clear H
   go_upto_if 16 with (fail)
   go_cut [8, 9] (fun v8 v9 wc => ∃ (kq : Nat) (a9 : Int) (e9 : Int), v8 = .int .i64 a9 ∧ v9 = .int .u8 e9 ∧ Aside0 (stanzaref07_pattern.j3 kq l0 a1 b9 a9 e9 a2 b2 = some (r1, r2, r3)) ∧ Aside0 (kq ≤ k1) ∧ Aside0 (Kd.R (Kd.int .i32) 21 wc w.heap.size (fun _ => True) b1 a2) ∧ Aside0 (Kd.R (Kd.int .u8) 5 wc w.heap.size (fun _ => True) b7 b2) ∧ Aside0 (wc.heap[b0]? = some (.cells #[(.slice none 0 0), (.slice none 0 0)] 39 (0, 0))) ∧ Aside0 (wc.heap[a7]? = some (.cells #[b1, b7] 39 (0, 0))) ∧ Aside0 (Below w.heap.size w wc))
   case first =>
    have H := u7.out
    clear u7
    by_cases c8 : b6 < (l0.length : Int)
    ·rw [if_pos c8] at H
     have f5 : decide (b6 < (l0.length : Int)) = true := decide_eq_true c8
     clear c8
     (first | rw [f5] | (simp only [i64_w, i32_w]; rw [f5]) | skip)
     by_cases c9 : 0 ≤ b6
     ·rw [if_pos c9] at H
      have m0 : decide (0 ≤ b6) = true := decide_eq_true c9
      clear c9
      have o6 := Aside0.mk H
      clear H
      have g4 : 0 ≤ (b6 : Int) := of_decide_eq_true (by assumption)
      have g5 : b6 < (l0.length : Int) := of_decide_eq_true (by assumption)
      obtain ⟨J6, B2, e4⟩ := Kd.at_int A1.out b6 g4 g5
      cases B2
      replace e4 := (HB.out.cell (World.block_lt_of_cell? w _ e4)).trans e4
      replace g4 := eq_true g4
      replace g5 := eq_true g5
      go_upto_region 7 with (fail)
      go_cut [30] (fun I8 wc => ∃ (kq : Nat) (i0 : Bool), I8 = .bool i0 ∧ Aside0 (stanzaref07_pattern.j1 kq l0 a1 b9 b6 0 (rd l0 b6) i0 a2 b2 = some (r1, r2, r3)) ∧ Aside0 (kq ≤ k1) ∧ Aside0 (Kd.R (Kd.int .i32) 21 wc w.heap.size (fun _ => True) b1 a2) ∧ Aside0 (Kd.R (Kd.int .u8) 5 wc w.heap.size (fun _ => True) b7 b2) ∧ Aside0 (wc.heap[b0]? = some (.cells #[(.slice none 0 0), (.slice none 0 0)] 39 (0, 0))) ∧ Aside0 (wc.heap[a7]? = some (.cells #[b1, b7] 39 (0, 0))) ∧ Aside0 (Below w.heap.size w wc))
      case first =>
       have H := o6.out
       clear o6
       by_cases h5 : a1 = true
       ·subst h5
        have H1 : (stanzaref07_pattern.j1 k1 l0 true b9 b6 0 (rd l0 b6) false a2 b2) = some (r1, r2, r3) := by rw [if_pos rfl] at H; exact H
        clear H
        have H := H1
        clear H1
        have H' := Aside0.mk H
        clear H
        go_wp2
        go_meet
        case rel => exact ⟨_, (false), (rfl), H', ⟨by have := d9.out; first | omega | exact Nat.le_refl _⟩, ⟨by exact a4.out⟩, ⟨by exact a6.out⟩, ⟨by exact a5.out⟩, ⟨by exact a3.out⟩, ⟨HB.out⟩⟩
       ·replace h5 := Bool.eq_false_iff.mpr h5
        subst h5
        have H1 : (if (rd l0 b6) ≥ 48 then (stanzaref07_pattern.j1 k1 l0 false b9 b6 0 (rd l0 b6) (decide ((rd l0 b6) ≤ 57)) a2 b2) else (stanzaref07_pattern.j1 k1 l0 false b9 b6 0 (rd l0 b6) false a2 b2)) = some (r1, r2, r3) := by rw [if_neg (show ¬ (false = true) by decide)] at H; exact H
        clear H
        have H := H1
        clear H1
        by_cases g2 : (rd l0 b6) ≥ 48
        ·rw [if_pos g2] at H
         have e6 : decide (48 ≤ (rd l0 b6)) = true := decide_eq_true g2
         clear g2
         (first | rw [e6] | (simp only [i64_w, i32_w]; rw [e6]) | skip)
         have H' := Aside0.mk H
         clear H
         go_wp2
         go_meet
         case rel => exact ⟨_, (decide ((rd l0 b6) ≤ 57)), (rfl), H', ⟨by have := d9.out; first | omega | exact Nat.le_refl _⟩, ⟨by exact a4.out⟩, ⟨by exact a6.out⟩, ⟨by exact a5.out⟩, ⟨by exact a3.out⟩, ⟨HB.out⟩⟩
        ·rw [if_neg g2] at H
         have e6 : decide (48 ≤ (rd l0 b6)) = false := decide_eq_false g2
         clear g2
         (first | rw [e6] | (simp only [i64_w, i32_w]; rw [e6]) | skip)
         have H' := Aside0.mk H
         clear H
         go_wp2
         go_meet
         case rel => exact ⟨_, (false), (rfl), H', ⟨by have := d9.out; first | omega | exact Nat.le_refl _⟩, ⟨by exact a4.out⟩, ⟨by exact a6.out⟩, ⟨by exact a5.out⟩, ⟨by exact a3.out⟩, ⟨HB.out⟩⟩
      case rest =>
       clear o6
       try clear c1
       try clear p2
       try clear q2
       try clear u9
       try clear c5
       try clear c8
       try clear f5
       try clear c9
       try clear m0
       try clear h5
       try clear g2
       try clear e6
       try clear f6
       try clear f7
       try clear f8
       try clear f9
       try clear e4
       try clear p2
       try clear g4
       try clear g5
       obtain ⟨kq, i0, rfl, HA, n9, a4, a6, a5, a3, HB⟩ := hcut
       cases kq with
       | zero => exact absurd HA.out (by simp [stanzaref07_pattern.j1])
       | succ k0 =>
        have H := HA.out
        clear HA
        simp only [stanzaref07_pattern.j1] at H
        by_cases i1 : i0 = true
        ·subst i1
         have H1 : (stanzaref07_pattern.j3 k0 l0 a1 b9 (wrap64 (b6 + 1)) ((wrap32 ((rd l0 b6) - 48)) % 256) a2 b2) = some (r1, r2, r3) := by rw [if_pos rfl] at H; exact H
         clear H
         have H := H1
         clear H1
         have H' := Aside0.mk H
         clear H
         go_wp2
         go_meet
         case rel => exact ⟨_, (wrap64 (b6 + 1)), ((wrap32 ((rd l0 b6) - 48)) % 256), (rfl), (rfl), H', ⟨by have := d9.out; have := n9.out; first | omega | exact Nat.le_refl _⟩, ⟨by exact a4.out⟩, ⟨by exact a6.out⟩, ⟨by exact a5.out⟩, ⟨by exact a3.out⟩, ⟨HB.out⟩⟩
        ·replace i1 := Bool.eq_false_iff.mpr i1
         subst i1
         have H1 : (if a1 = true then (stanzaref07_pattern.j2 k0 l0 a1 b9 b6 0 ((rd l0 b6) == 45) a2 b2) else (stanzaref07_pattern.j2 k0 l0 a1 b9 b6 0 false a2 b2)) = some (r1, r2, r3) := by rw [if_neg (show ¬ (false = true) by decide)] at H; exact H
         clear H
         have H := H1
         clear H1
         have o7 := Aside0.mk H
         clear H
         go_upto_region 10 with (fail)
         go_cut [40] (fun I9 wc => ∃ (kq : Nat) (g6 : Bool), I9 = .bool g6 ∧ Aside0 (stanzaref07_pattern.j2 kq l0 a1 b9 b6 0 g6 a2 b2 = some (r1, r2, r3)) ∧ Aside0 (kq ≤ k0) ∧ Aside0 (Kd.R (Kd.int .i32) 21 wc w.heap.size (fun _ => True) b1 a2) ∧ Aside0 (Kd.R (Kd.int .u8) 5 wc w.heap.size (fun _ => True) b7 b2) ∧ Aside0 (wc.heap[b0]? = some (.cells #[(.slice none 0 0), (.slice none 0 0)] 39 (0, 0))) ∧ Aside0 (wc.heap[a7]? = some (.cells #[b1, b7] 39 (0, 0))) ∧ Aside0 (Below w.heap.size w wc))
         case first =>
          have H := o7.out
          clear o7
          by_cases i2 : a1 = true
          ·subst i2
           have H1 : (stanzaref07_pattern.j2 k0 l0 true b9 b6 0 ((rd l0 b6) == 45) a2 b2) = some (r1, r2, r3) := by rw [if_pos rfl] at H; exact H
           clear H
           have H := H1
           clear H1
           have H' := Aside0.mk H
           clear H
           go_wp2
           go_meet
           case rel => exact ⟨_, (((rd l0 b6) == 45)), (rfl), H', ⟨by have := d9.out; have := n9.out; first | omega | exact Nat.le_refl _⟩, ⟨by exact a4.out⟩, ⟨by exact a6.out⟩, ⟨by exact a5.out⟩, ⟨by exact a3.out⟩, ⟨HB.out⟩⟩
          ·replace i2 := Bool.eq_false_iff.mpr i2
           subst i2
           have H1 : (stanzaref07_pattern.j2 k0 l0 false b9 b6 0 false a2 b2) = some (r1, r2, r3) := by rw [if_neg (show ¬ (false = true) by decide)] at H; exact H
           clear H
           have H := H1
           clear H1
           have H' := Aside0.mk H
           clear H
           go_wp2
           go_meet
           case rel => exact ⟨_, (false), (rfl), H', ⟨by have := d9.out; have := n9.out; first | omega | exact Nat.le_refl _⟩, ⟨by exact a4.out⟩, ⟨by exact a6.out⟩, ⟨by exact a5.out⟩, ⟨by exact a3.out⟩, ⟨HB.out⟩⟩
         case rest =>
          clear o7
          try clear c1
          try clear p2
          try clear q2
          try clear u9
          try clear p3
          try clear c5
          try clear p6
          try clear c8
          try clear f5
          try clear c9
          try clear m0
          try clear h5
          try clear g2
          try clear e6
          try clear i1
          try clear i2
          try clear f6
          try clear f7
          try clear f8
          try clear f9
          try clear e4
          try clear p2
          try clear g4
          try clear q2
          try clear g5
          obtain ⟨kq, g6, rfl, HA, v0, a4, a6, a5, a3, HB⟩ := hcut
          cases kq with
          | zero => exact absurd HA.out (by simp [stanzaref07_pattern.j2])
          | succ v1 =>
           have H := HA.out
           clear HA
           simp only [stanzaref07_pattern.j2] at H
           by_cases k2 : g6 = true
           ·subst k2
            have H1 : (if b6 = 0 then (some (a2, b2, false)) else (if b6 = (wrap64 ((l0.length : Int) - 1)) then (some (a2, b2, false)) else (stanzaref07_pattern.j3 v1 l0 a1 b9 (wrap64 (b6 + 1)) 1 a2 b2))) = some (r1, r2, r3) := by rw [if_pos rfl] at H; exact H
            clear H
            have H := H1
            clear H1
            by_cases g7 : b6 = 0
            ·rw [if_pos g7] at H
             have m1 : (b6 == 0) = true := beq_iff_eq.mpr g7
             have m2 : (b6 != 0) = false := bne_eq_false_iff_eq.mpr g7
             clear g7
             simp only [Option.some.injEq, Prod.mk.injEq] at H
             obtain ⟨rfl, rfl, rfl⟩ := H
             have J7 := b4.out
             have J8 := b3.out
             have k3 : wc.cell? ⟨a7, 0, none⟩ = some (b1) := (blk_cell a3.out 0).trans rfl
             have k4 : wc.cell? ⟨a7, 1, none⟩ = some (b7) := (blk_cell a3.out 1).trans rfl
             have k5 := blk_frozen a3.out 0
             have k6 := blk_frozen a3.out 1
             obtain ⟨m3, m4, B3⟩ := Kd.R_slice a4.out
             subst B3
             have k7 : wc.cell? ⟨b0, 0, none⟩ = some (.slice none 0 0) := (blk_cell a5.out 0).trans rfl
             have k8 : wc.cell? ⟨b0, 1, none⟩ = some (.slice none 0 0) := (blk_cell a5.out 1).trans rfl
             have k9 := blk_frozen a5.out 0
             have l1 := blk_frozen a5.out 1
             obtain ⟨o8, o9, B4⟩ := Kd.R_slice a6.out
             subst B4
             go_wp2
             refine bodyPost_ret (results_ct rfl _ _ b0 39 #[.slice m3 a2.length m4, .slice o8 b2.length o9] (0, 0) _ rfl (by refine blk_put (cs := #[.slice m3 a2.length m4, .slice none 0 0]) ?_ 1 _ rfl; refine blk_put (cs := #[.slice none 0 0, .slice none 0 0]) ?_ 0 _ rfl; exact a5.out) Try.underlying39 rfl (by kernel_rfl)) rfl ?_
             exact ⟨_, _, rfl, by exact Kd.R_mono (Kd.R_far (p := ⟨b0, 1, none⟩) (Kd.R_far (p := ⟨b0, 0, none⟩) (Kd.R_types a4.out a5.out (by decide)) (fun _ hk => hk.2) (.slice m3 a2.length m4)) (fun _ hk => hk.2) (.slice o8 b2.length o9)) (fun _ hk => trivial), by exact Kd.R_mono (Kd.R_far (p := ⟨b0, 1, none⟩) (Kd.R_far (p := ⟨b0, 0, none⟩) (Kd.R_types a6.out a5.out (by decide)) (fun _ hk => hk.2) (.slice m3 a2.length m4)) (fun _ hk => hk.2) (.slice o8 b2.length o9)) (fun _ hk => trivial), by repeat (first | (with_reducible first | exact HB.out | apply below_alloc | apply pw_below_drewN | apply below_drew1 | refine below_set ?_ d7.out | refine below_set ?_ d8.out) | exact HB.out)⟩
            ·rw [if_neg g7] at H
             have m1 : (b6 == 0) = false := beq_eq_false_iff_ne.mpr g7
             have m2 : (b6 != 0) = true := bne_iff_ne.mpr g7
             by_cases g8 : b6 = (wrap64 ((l0.length : Int) - 1))
             ·rw [if_pos g8] at H
              have m5 : (b6 == (wrap64 ((l0.length : Int) - 1))) = true := beq_iff_eq.mpr g8
              have m6 : (b6 != (wrap64 ((l0.length : Int) - 1))) = false := bne_eq_false_iff_eq.mpr g8
              clear g8
              simp only [Option.some.injEq, Prod.mk.injEq] at H
              obtain ⟨rfl, rfl, rfl⟩ := H
              have J9 := b4.out
              have K0 := b3.out
              have l2 : wc.cell? ⟨a7, 0, none⟩ = some (b1) := (blk_cell a3.out 0).trans rfl
              have l3 : wc.cell? ⟨a7, 1, none⟩ = some (b7) := (blk_cell a3.out 1).trans rfl
              have l4 := blk_frozen a3.out 0
              have l5 := blk_frozen a3.out 1
              obtain ⟨m7, m8, B5⟩ := Kd.R_slice a4.out
              subst B5
              have l6 : wc.cell? ⟨b0, 0, none⟩ = some (.slice none 0 0) := (blk_cell a5.out 0).trans rfl
              have l7 : wc.cell? ⟨b0, 1, none⟩ = some (.slice none 0 0) := (blk_cell a5.out 1).trans rfl
              have l8 := blk_frozen a5.out 0
              have l9 := blk_frozen a5.out 1
              obtain ⟨p0, p1, B6⟩ := Kd.R_slice a6.out
              subst B6
              go_wp2
              refine bodyPost_ret (results_ct rfl _ _ b0 39 #[.slice m7 a2.length m8, .slice p0 b2.length p1] (0, 0) _ rfl (by refine blk_put (cs := #[.slice m7 a2.length m8, .slice none 0 0]) ?_ 1 _ rfl; refine blk_put (cs := #[.slice none 0 0, .slice none 0 0]) ?_ 0 _ rfl; exact a5.out) Try.underlying39 rfl (by kernel_rfl)) rfl ?_
              exact ⟨_, _, rfl, by exact Kd.R_mono (Kd.R_far (p := ⟨b0, 1, none⟩) (Kd.R_far (p := ⟨b0, 0, none⟩) (Kd.R_types a4.out a5.out (by decide)) (fun _ hk => hk.2) (.slice m7 a2.length m8)) (fun _ hk => hk.2) (.slice p0 b2.length p1)) (fun _ hk => trivial), by exact Kd.R_mono (Kd.R_far (p := ⟨b0, 1, none⟩) (Kd.R_far (p := ⟨b0, 0, none⟩) (Kd.R_types a6.out a5.out (by decide)) (fun _ hk => hk.2) (.slice m7 a2.length m8)) (fun _ hk => hk.2) (.slice p0 b2.length p1)) (fun _ hk => trivial), by repeat (first | (with_reducible first | exact HB.out | apply below_alloc | apply pw_below_drewN | apply below_drew1 | refine below_set ?_ d7.out | refine below_set ?_ d8.out) | exact HB.out)⟩
             ·rw [if_neg g8] at H
              have m5 : (b6 == (wrap64 ((l0.length : Int) - 1))) = false := beq_eq_false_iff_ne.mpr g8
              have m6 : (b6 != (wrap64 ((l0.length : Int) - 1))) = true := bne_iff_ne.mpr g8
              have H' := Aside0.mk H
              clear H
              go_wp2
              go_meet
              case rel => exact ⟨_, (wrap64 (b6 + 1)), (1), (rfl), (rfl), H', ⟨by have := d9.out; have := n9.out; have := v0.out; first | omega | exact Nat.le_refl _⟩, ⟨by exact a4.out⟩, ⟨by exact a6.out⟩, ⟨by exact a5.out⟩, ⟨by exact a3.out⟩, ⟨HB.out⟩⟩
           ·replace k2 := Bool.eq_false_iff.mpr k2
            subst k2
            have H1 : (stanzaref07_pattern.j3 v1 l0 a1 b9 b6 0 a2 b2) = some (r1, r2, r3) := by rw [if_neg (show ¬ (false = true) by decide)] at H; exact H
            clear H
            have H := H1
            clear H1
            have H' := Aside0.mk H
            clear H
            go_wp2
            go_meet
            case rel => exact ⟨_, (b6), (0), (rfl), (rfl), H', ⟨by have := d9.out; have := n9.out; have := v0.out; first | omega | exact Nat.le_refl _⟩, ⟨by exact a4.out⟩, ⟨by exact a6.out⟩, ⟨by exact a5.out⟩, ⟨by exact a3.out⟩, ⟨HB.out⟩⟩
     ·rw [if_neg c9] at H
      exact absurd H (by simp)
    ·rw [if_neg c8] at H
     have f5 : decide (b6 < (l0.length : Int)) = false := decide_eq_false c8
     clear c8
     (first | rw [f5] | (simp only [i64_w, i32_w]; rw [f5]) | skip)
     have H' := Aside0.mk H
     clear H
     go_wp2
     go_meet
     case rel => exact ⟨_, (b6), (0), (rfl), (rfl), H', ⟨by have := d9.out; first | omega | exact Nat.le_refl _⟩, ⟨by exact a4.out⟩, ⟨by exact a6.out⟩, ⟨by exact a5.out⟩, ⟨by exact a3.out⟩, ⟨HB.out⟩⟩
   case rest =>
    clear u7
    try clear c1
    try clear c2
    try clear p2
    try clear q2
    try clear u9
    try clear p3
    try clear c5
    try clear p6
    try clear c8
    try clear f5
    try clear c9
    try clear m0
    try clear h5
    try clear g2
    try clear e6
    try clear i1
    try clear i2
    try clear k2
    try clear g7
    try clear m1
    try clear m2
    try clear J0
    try clear g8
    try clear m5
    try clear m6
    try clear J1
    try clear A4
    try clear A5
    try clear B7
    try clear k3
    try clear k4
    try clear k7
    try clear k8
    try clear l2
    try clear l3
    try clear l6
    try clear l7
    try clear f6
    try clear f7
    try clear k5
    try clear k6
    try clear k9
    try clear l1
    try clear l4
    try clear l5
    try clear l8
    try clear l9
    try clear f8
    try clear f9
    try clear e4
    try clear p2
    try clear g4
    try clear p3
    try clear p6
    try clear q2
    try clear g5
    obtain ⟨kq, a9, e9, rfl, rfl, HA, g3, a4, a6, a5, a3, HB⟩ := hcut
    cases kq with
    | zero => exact absurd HA.out (by simp [stanzaref07_pattern.j3])
    | succ o0 =>
     have H := HA.out
     clear HA
     simp only [stanzaref07_pattern.j3] at H
     by_cases o1 : b2.length < 140737488355328
     ·rw [if_pos o1] at H
      have m9 := Aside0.mk o1
      clear o1
      obtain ⟨a8, g9⟩ : ∃ y_ : List Int, y_ = (b2 ++ [e9]) := ⟨_, rfl⟩
      replace H : (if a9 = (l0.length : Int) then (if b9 > 0 then (some (a2, a8, decide ((a2.length : Int) ≤ 24))) else (some (a2, a8, false))) else (if 0 ≤ a9 then (if a9 < (l0.length : Int) then (if (rd l0 a9) = 45 then (stanzaref07_pattern.j4 o0 l0 a1 b9 a9 (rd l0 a9) true a2 a8) else (if (rd l0 a9) ≥ 48 then (if (rd l0 a9) ≤ 57 then (stanzaref07_pattern.j4 o0 l0 a1 b9 a9 (rd l0 a9) true a2 a8) else (stanzaref07_pattern.j4 o0 l0 a1 b9 a9 (rd l0 a9) ((rd l0 a9) == 65533) a2 a8)) else (stanzaref07_pattern.j4 o0 l0 a1 b9 a9 (rd l0 a9) ((rd l0 a9) == 65533) a2 a8))) else (none)) else (none))) = some (r1, r2, r3) := by first | (rw [g9]; with_reducible exact H) | (have e7 := (Option.bind_some _ _).symm.trans H; rw [g9]; with_reducible exact e7) | (have e7 := (Option.bind_some _ _).symm.trans H; with_reducible exact e7) | with_reducible exact H | (rw [g9]; exact H) | exact H
      have n0 := Aside0.mk g9
      clear g9
      by_cases h6 : a9 = (l0.length : Int)
      ·rw [if_pos h6] at H
       have q4 : (a9 == (l0.length : Int)) = true := beq_iff_eq.mpr h6
       have q5 : (a9 != (l0.length : Int)) = false := bne_eq_false_iff_eq.mpr h6
       clear h6
       by_cases i3 : b9 > 0
       ·rw [if_pos i3] at H
        have q6 : decide (0 < b9) = true := decide_eq_true i3
        clear i3
        simp only [Option.some.injEq, Prod.mk.injEq] at H
        obtain ⟨rfl, rfl, rfl⟩ := H
        have K1 := b4.out
        have K2 := b3.out
        have s3 : wc.cell? ⟨a7, 0, none⟩ = some (b1) := (blk_cell a3.out 0).trans rfl
        have s4 : wc.cell? ⟨a7, 1, none⟩ = some (b7) := (blk_cell a3.out 1).trans rfl
        have s5 := blk_frozen a3.out 0
        have s6 := blk_frozen a3.out 1
        try go_wp2_with (first | ((with_reducible refine gate_builtin (b := .append) (xs := #[.tmp 54, .tmp 56]) rfl ?_); (try (refine gate_guard (by rfl) ?_; dsimp only)); at_builtin; refine Kd.R_append (Kd.int .u8) (w0 := w) w.heap.size rfl (.tmp 54) (.tmp 56) 27 5 (.int .u8 0) 1 rfl Try.underlying27 info5 rfl (by decide) (by omega) b7 b2 e9 [.int .u8 e9] (fun _ => True) (fun _ => False) rfl rfl ?aP (fun _ hk => hk.elim) ?aF ?aO ?aB ?aS ?aL ?_; (case aP => exact rfl); (case aB => exact (HB.out)); (case aF => exact (fun _ _ => trivial)); (case aO => exact (by exact a6.out)); (case aS => exact (below_size (HB.out))); (case aL => have := m9.out; omega); intro v2 h7 ho hb hg hat; rw [← n0.out] at ho; have d2 := Aside0.mk (Kd.R_over' (by exact a4.out) (Kd.R_typed (by exact a6.out)) (by decide) hg); have d3 := Aside0.mk (blk_grown a5.out hg (Kd.R_ne a6.out a5.out (by decide))); have d4 := Aside0.mk (blk_grown a3.out hg (Kd.R_ne a6.out a3.out (by decide))); have d5 := Aside0.mk (hb); have d6 := Aside0.mk (ho); clear a4; clear a5; clear a3; clear HB; clear a6; have a4 := d2; have a5 := d3; have a3 := d4; have HB := d5; have d1 := d6; clear d2 d3 d4 d5 d6; clear ho hb hg hat; obtain ⟨e0, e1, B8⟩ := Kd.R_slice d1.out; subst B8; have s7 : h7.cell? ⟨a7, 0, none⟩ = some (b1) := (blk_cell a3.out 0).trans rfl; have s8 : h7.cell? ⟨a7, 1, none⟩ = some (b7) := (blk_cell a3.out 1).trans rfl; have s9 := blk_frozen a3.out 0; have t0 := blk_frozen a3.out 1))
        have d2 : Aside0 (Kd.R (Kd.int .i32) 21 (h7.setCell ⟨a7, 1, none⟩ (.slice e0 a8.length e1)) w.heap.size (fun _ => True) b1 a2) := ⟨by exact Kd.R_mono (Kd.R_far (p := ⟨a7, 1, none⟩) (Kd.R_types a4.out a3.out (by decide)) (fun _ hk => hk.2) (.slice e0 a8.length e1)) (fun _ hk => trivial)⟩
        have d3 : Aside0 (Kd.R (Kd.int .u8) 5 (h7.setCell ⟨a7, 1, none⟩ (.slice e0 a8.length e1)) w.heap.size (fun _ => True) (.slice e0 a8.length e1) a8) := ⟨by exact Kd.R_mono (Kd.R_far (p := ⟨a7, 1, none⟩) (Kd.R_types d1.out a3.out (by decide)) (fun _ hk => hk.2) (.slice e0 a8.length e1)) (fun _ hk => trivial)⟩
        have d4 : Aside0 ((h7.setCell ⟨a7, 1, none⟩ (.slice e0 a8.length e1)).heap[b0]? = some (.cells #[.slice none 0 0, .slice none 0 0] 39 (0, 0))) := ⟨by refine blk_far ?_ b3.out _; exact a5.out⟩
        have d5 : Aside0 ((h7.setCell ⟨a7, 1, none⟩ (.slice e0 a8.length e1)).heap[a7]? = some (.cells #[b1, .slice e0 a8.length e1] 39 (0, 0))) := ⟨by refine blk_put (cs := #[b1, b7]) ?_ 1 _ rfl; exact a3.out⟩
        have d6 : Aside0 (Below w.heap.size w (h7.setCell ⟨a7, 1, none⟩ (.slice e0 a8.length e1))) := ⟨by repeat (first | (with_reducible first | exact HB.out | apply below_alloc | apply pw_below_drewN | apply below_drew1 | refine below_set ?_ d7.out | refine below_set ?_ d8.out) | exact HB.out)⟩
        (try clear a4)
        (try clear d1)
        (try clear a5)
        (try clear a3)
        (try clear HB)
        generalize (h7.setCell ⟨a7, 1, none⟩ (.slice e0 a8.length e1)) = J2 at d2 d3 d4 d5 d6 ⊢
        have a4 := d2
        have d1 := d3
        have a5 := d4
        have a3 := d5
        have HB := d6
        clear d2 d3 d4 d5 d6
        have d2 := Aside0.mk (Kd.R_drew a4.out)
        have d3 := Aside0.mk (Kd.R_drew d1.out)
        have d4 := Aside0.mk (blk_drew a5.out)
        have d5 := Aside0.mk (blk_drew a3.out)
        have d6 := Aside0.mk (below_drew1 HB.out)
        clear a4
        clear d1
        clear a5
        clear a3
        clear HB
        have a4 := d2
        have d1 := d3
        have a5 := d4
        have a3 := d5
        have HB := d6
        clear d2 d3 d4 d5 d6
        obtain ⟨i4, i5, v3⟩ := Kd.R_slice a4.out
        (first | subst v3 | (injection v3 with o2 v4 o3; have v5 := o2.symm; have v6 := o3.symm; clear o2 v4 o3; subst v5; subst v6))
        refine start_ (n := 11) (S := fun w' => w'.cell? ⟨a7, 0, none⟩ = some (.slice i4 a2.length i5) ∧ w'.cell? ⟨a7, 1, none⟩ = some (.slice e0 a8.length e1)) (ds := []) #[false, false, false, false, false, false, false, false, false, false, false] (by kernel_rfl) rfl rfl ⟨(blk_cell a3.out 0).trans rfl, (blk_cell a3.out 1).trans rfl⟩ (fun hHeld => ?_); refine with_tabW stanzaref07_pattern.tab26 stanzaref07_pattern.bits26 (fun HT_ HW_ => ?_)
        generalize J2.drew = A6 at a4 d1 a5 a3 HB hHeld ⊢
        refine pure_ (i := 1) (N := some 108) (v := ?_) (a' := ?_) #[false, true, false, false, false, false, false, false, false, false, false] rfl rfl (any_of HT_.out (by kernel_rfl)) (fun _ _ _ h => h) (Or.inl ⟨by rfl, ?_⟩) ?_ ?_
        rotate_left
        ·intro w'
         go_simp
         with_reducible rfl
        rotate_left
        ·simp only [Act.put, List.setIfInBounds_toArray, List.set_cons_zero, List.set_cons_succ, i64_w, i32_w]
         rfl
        refine pure_ (i := 2) (N := some 109) (v := ?_) (a' := ?_) #[false, true, true, false, false, false, false, false, false, false, false] rfl rfl (any_of HT_.out (by kernel_rfl)) (fun _ _ _ h => h) (Or.inl ⟨by rfl, ?_⟩) ?_ ?_
        rotate_left
        ·intro w'
         go_simp
         with_reducible rfl
        rotate_left
        ·simp only [Act.put, List.setIfInBounds_toArray, List.set_cons_zero, List.set_cons_succ, i64_w, i32_w]
         rfl
        refine pure_ (i := 3) (N := some 110) (v := ?_) (a' := ?_) #[false, true, true, true, false, false, false, false, false, false, false] rfl rfl (any_of HT_.out (by kernel_rfl)) (fun _ _ _ h => h) (Or.inl ⟨by rfl, ?_⟩) ?_ ?_
        rotate_left
        ·intro w'
         go_simp
         with_reducible rfl
        rotate_left
        ·simp only [Act.put, List.setIfInBounds_toArray, List.set_cons_zero, List.set_cons_succ, i64_w, i32_w]
         rfl
        refine pure_ (i := 4) (N := some 111) (v := ?_) (a' := ?_) #[false, true, true, true, true, false, false, false, false, false, false] rfl rfl (any_of HT_.out (by kernel_rfl)) (fun _ _ _ h => h) (Or.inl ⟨by rfl, ?_⟩) ?_ ?_
        rotate_left
        ·intro w'
         go_simp
         with_reducible rfl
        rotate_left
        ·simp only [Act.put, List.setIfInBounds_toArray, List.set_cons_zero, List.set_cons_succ, i64_w, i32_w]
         rfl
        refine take_ (i := 0) (N := some 107) (v := ?_) (a' := ?_) #[true, true, true, true, true, false, false, false, false, false, false] rfl rfl (take_ofW HT_.out HW_.out (by kernel_rfl)) (fun _ _ _ h => h) (Or.inl ⟨by rfl, ?_⟩) hHeld ?_ ?_
        rotate_left
        ·rintro w' ⟨s0, s1⟩
         go_simp
         with_reducible rfl
        rotate_left
        ·simp only [Act.put, List.setIfInBounds_toArray, List.set_cons_zero, List.set_cons_succ, i64_w, i32_w]
         rfl
        refine take_ (i := 5) (N := some 112) (v := ?_) (a' := ?_) #[true, true, true, true, true, true, false, false, false, false, false] rfl rfl (take_ofW HT_.out HW_.out (by kernel_rfl)) (fun _ _ _ h => h) (Or.inl ⟨by rfl, ?_⟩) hHeld ?_ ?_
        rotate_left
        ·rintro w' ⟨s0, s1⟩
         go_simp
         with_reducible rfl
        rotate_left
        ·simp only [Act.put, List.setIfInBounds_toArray, List.set_cons_zero, List.set_cons_succ, i64_w, i32_w]
         rfl
        refine pure_ (i := 6) (N := some 113) (v := ?_) (a' := ?_) #[true, true, true, true, true, true, true, false, false, false, false] rfl rfl (any_of HT_.out (by kernel_rfl)) (fun _ _ _ h => h) (Or.inl ⟨by rfl, ?_⟩) ?_ ?_
        rotate_left
        ·intro w'
         go_simp
         with_reducible rfl
        rotate_left
        ·simp only [Act.put, List.setIfInBounds_toArray, List.set_cons_zero, List.set_cons_succ, i64_w, i32_w]
         rfl
        refine pure_ (i := 7) (N := some 114) (v := ?_) (a' := ?_) #[true, true, true, true, true, true, true, true, false, false, false] rfl rfl (any_of HT_.out (by kernel_rfl)) (fun _ _ _ h => h) (Or.inl ⟨by rfl, ?_⟩) ?_ ?_
        rotate_left
        ·intro w'
         go_simp
         with_reducible rfl
        rotate_left
        ·simp only [Act.put, List.setIfInBounds_toArray, List.set_cons_zero, List.set_cons_succ, i64_w, i32_w]
         rfl
        refine pure_ (i := 8) (N := some 115) (v := ?_) (a' := ?_) #[true, true, true, true, true, true, true, true, true, false, false] rfl rfl (any_of HT_.out (by kernel_rfl)) (fun _ _ _ h => h) (Or.inl ⟨by rfl, ?_⟩) ?_ ?_
        rotate_left
        ·intro w'
         go_simp
         with_reducible rfl
        rotate_left
        ·simp only [Act.put, List.setIfInBounds_toArray, List.set_cons_zero, List.set_cons_succ, i64_w, i32_w]
         rfl
        refine one_ (i := 9) (N := none) #[true, true, true, true, true, true, true, true, true, true, false] rfl rfl (one_of HT_.out (by kernel_rfl)) (by decide) (fun K hK => ?_)
        have M5 : A6.cell? ⟨b0, 0, none⟩ = some (.slice none 0 0) := (blk_cell a5.out 0).trans rfl
        have K3 := blk_frozen a5.out 0
        have C8 := b4.out
        have C9 := b3.out
        have M6 : A6.cell? ⟨b0, 1, none⟩ = some (.slice none 0 0) := (blk_cell a5.out 1).trans rfl
        have K4 := blk_frozen a5.out 1
        have D0 := b4.out
        have D1 := b3.out
        refine skip_ (w1 := ?_) (by rfl) rfl ?_ ?_
        rotate_left
        ·go_simp
         rfl
        refine hK.out _ _ ⟨((cell_far (p := ⟨b0, _, none⟩) b4.out _).trans (((cell_far (p := ⟨b0, _, none⟩) b4.out _).trans (hHeld.1)))), ((cell_far (p := ⟨b0, _, none⟩) b4.out _).trans (((cell_far (p := ⟨b0, _, none⟩) b4.out _).trans (hHeld.2))))⟩ (fun hHeld => ?_)
        clear hK K
        refine pure_ (i := 10) (N := some 5) (v := ?_) (a' := ?_) #[true, true, true, true, true, true, true, true, true, true, true] rfl rfl (any_of HT_.out (by kernel_rfl)) (fun _ _ _ h => h) (Or.inl ⟨by rfl, ?_⟩) ?_ ?_
        rotate_left
        ·intro w'
         go_simp
         with_reducible rfl
        rotate_left
        ·simp only [Act.put, List.setIfInBounds_toArray, List.set_cons_zero, List.set_cons_succ, i64_w, i32_w]
         rfl
        refine done_ (done_of HT_.out (by kernel_rfl)) ?_
        try go_wp2
        refine bodyPost_ret (results_ct rfl _ _ b0 39 #[.slice i4 a2.length i5, .slice e0 a8.length e1] (0, 0) _ rfl (by refine blk_put (cs := #[.slice i4 a2.length i5, .slice none 0 0]) ?_ 1 _ rfl; refine blk_put (cs := #[.slice none 0 0, .slice none 0 0]) ?_ 0 _ rfl; exact a5.out) Try.underlying39 rfl (by kernel_rfl)) rfl ?_
        exact ⟨_, _, rfl, by exact Kd.R_mono (Kd.R_far (p := ⟨b0, 1, none⟩) (Kd.R_far (p := ⟨b0, 0, none⟩) (Kd.R_types a4.out a5.out (by decide)) (fun _ hk => hk.2) (.slice i4 a2.length i5)) (fun _ hk => hk.2) (.slice e0 a8.length e1)) (fun _ hk => trivial), by exact Kd.R_mono (Kd.R_far (p := ⟨b0, 1, none⟩) (Kd.R_far (p := ⟨b0, 0, none⟩) (Kd.R_types d1.out a5.out (by decide)) (fun _ hk => hk.2) (.slice i4 a2.length i5)) (fun _ hk => hk.2) (.slice e0 a8.length e1)) (fun _ hk => trivial), by repeat (first | (with_reducible first | exact HB.out | apply below_alloc | apply pw_below_drewN | apply below_drew1 | refine below_set ?_ d7.out | refine below_set ?_ d8.out) | exact HB.out)⟩
       ·rw [if_neg i3] at H
        have q6 : decide (0 < b9) = false := decide_eq_false i3
        clear i3
        simp only [Option.some.injEq, Prod.mk.injEq] at H
        obtain ⟨rfl, rfl, rfl⟩ := H
        have K5 := b4.out
        have K6 := b3.out
        have t1 : wc.cell? ⟨a7, 0, none⟩ = some (b1) := (blk_cell a3.out 0).trans rfl
        have t2 : wc.cell? ⟨a7, 1, none⟩ = some (b7) := (blk_cell a3.out 1).trans rfl
        have t3 := blk_frozen a3.out 0
        have t4 := blk_frozen a3.out 1
        try go_wp2_with (first | ((with_reducible refine gate_builtin (b := .append) (xs := #[.tmp 54, .tmp 56]) rfl ?_); (try (refine gate_guard (by rfl) ?_; dsimp only)); at_builtin; refine Kd.R_append (Kd.int .u8) (w0 := w) w.heap.size rfl (.tmp 54) (.tmp 56) 27 5 (.int .u8 0) 1 rfl Try.underlying27 info5 rfl (by decide) (by omega) b7 b2 e9 [.int .u8 e9] (fun _ => True) (fun _ => False) rfl rfl ?aP (fun _ hk => hk.elim) ?aF ?aO ?aB ?aS ?aL ?_; (case aP => exact rfl); (case aB => exact (HB.out)); (case aF => exact (fun _ _ => trivial)); (case aO => exact (by exact a6.out)); (case aS => exact (below_size (HB.out))); (case aL => have := m9.out; omega); intro v2 h8 ho hb hg hat; rw [← n0.out] at ho; have d2 := Aside0.mk (Kd.R_over' (by exact a4.out) (Kd.R_typed (by exact a6.out)) (by decide) hg); have d3 := Aside0.mk (blk_grown a5.out hg (Kd.R_ne a6.out a5.out (by decide))); have d4 := Aside0.mk (blk_grown a3.out hg (Kd.R_ne a6.out a3.out (by decide))); have d5 := Aside0.mk (hb); have d6 := Aside0.mk (ho); clear a4; clear a5; clear a3; clear HB; clear a6; have a4 := d2; have a5 := d3; have a3 := d4; have HB := d5; have d1 := d6; clear d2 d3 d4 d5 d6; clear ho hb hg hat; obtain ⟨e2, e3, B9⟩ := Kd.R_slice d1.out; subst B9; have t5 : h8.cell? ⟨a7, 0, none⟩ = some (b1) := (blk_cell a3.out 0).trans rfl; have t6 : h8.cell? ⟨a7, 1, none⟩ = some (b7) := (blk_cell a3.out 1).trans rfl; have t7 := blk_frozen a3.out 0; have t8 := blk_frozen a3.out 1))
        have d2 : Aside0 (Kd.R (Kd.int .i32) 21 (h8.setCell ⟨a7, 1, none⟩ (.slice e2 a8.length e3)) w.heap.size (fun _ => True) b1 a2) := ⟨by exact Kd.R_mono (Kd.R_far (p := ⟨a7, 1, none⟩) (Kd.R_types a4.out a3.out (by decide)) (fun _ hk => hk.2) (.slice e2 a8.length e3)) (fun _ hk => trivial)⟩
        have d3 : Aside0 (Kd.R (Kd.int .u8) 5 (h8.setCell ⟨a7, 1, none⟩ (.slice e2 a8.length e3)) w.heap.size (fun _ => True) (.slice e2 a8.length e3) a8) := ⟨by exact Kd.R_mono (Kd.R_far (p := ⟨a7, 1, none⟩) (Kd.R_types d1.out a3.out (by decide)) (fun _ hk => hk.2) (.slice e2 a8.length e3)) (fun _ hk => trivial)⟩
        have d4 : Aside0 ((h8.setCell ⟨a7, 1, none⟩ (.slice e2 a8.length e3)).heap[b0]? = some (.cells #[.slice none 0 0, .slice none 0 0] 39 (0, 0))) := ⟨by refine blk_far ?_ b3.out _; exact a5.out⟩
        have d5 : Aside0 ((h8.setCell ⟨a7, 1, none⟩ (.slice e2 a8.length e3)).heap[a7]? = some (.cells #[b1, .slice e2 a8.length e3] 39 (0, 0))) := ⟨by refine blk_put (cs := #[b1, b7]) ?_ 1 _ rfl; exact a3.out⟩
        have d6 : Aside0 (Below w.heap.size w (h8.setCell ⟨a7, 1, none⟩ (.slice e2 a8.length e3))) := ⟨by repeat (first | (with_reducible first | exact HB.out | apply below_alloc | apply pw_below_drewN | apply below_drew1 | refine below_set ?_ d7.out | refine below_set ?_ d8.out) | exact HB.out)⟩
        (try clear a4)
        (try clear d1)
        (try clear a5)
        (try clear a3)
        (try clear HB)
        generalize (h8.setCell ⟨a7, 1, none⟩ (.slice e2 a8.length e3)) = J3 at d2 d3 d4 d5 d6 ⊢
        have a4 := d2
        have d1 := d3
        have a5 := d4
        have a3 := d5
        have HB := d6
        clear d2 d3 d4 d5 d6
        have d2 := Aside0.mk (Kd.R_drew a4.out)
        have d3 := Aside0.mk (Kd.R_drew d1.out)
        have d4 := Aside0.mk (blk_drew a5.out)
        have d5 := Aside0.mk (blk_drew a3.out)
        have d6 := Aside0.mk (below_drew1 HB.out)
        clear a4
        clear d1
        clear a5
        clear a3
        clear HB
        have a4 := d2
        have d1 := d3
        have a5 := d4
        have a3 := d5
        have HB := d6
        clear d2 d3 d4 d5 d6
        obtain ⟨i6, i7, w2⟩ := Kd.R_slice a4.out
        (first | subst w2 | (injection w2 with o2 v4 o3; have v5 := o2.symm; have v6 := o3.symm; clear o2 v4 o3; subst v5; subst v6))
        refine start_ (n := 11) (S := fun w' => w'.cell? ⟨a7, 0, none⟩ = some (.slice i6 a2.length i7) ∧ w'.cell? ⟨a7, 1, none⟩ = some (.slice e2 a8.length e3)) (ds := []) #[false, false, false, false, false, false, false, false, false, false, false] (by kernel_rfl) rfl rfl ⟨(blk_cell a3.out 0).trans rfl, (blk_cell a3.out 1).trans rfl⟩ (fun hHeld => ?_); refine with_tabW stanzaref07_pattern.tab26 stanzaref07_pattern.bits26 (fun HT_ HW_ => ?_)
        generalize J3.drew = A7 at a4 d1 a5 a3 HB hHeld ⊢
        refine pure_ (i := 1) (N := some 108) (v := ?_) (a' := ?_) #[false, true, false, false, false, false, false, false, false, false, false] rfl rfl (any_of HT_.out (by kernel_rfl)) (fun _ _ _ h => h) (Or.inl ⟨by rfl, ?_⟩) ?_ ?_
        rotate_left
        ·intro w'
         go_simp
         with_reducible rfl
        rotate_left
        ·simp only [Act.put, List.setIfInBounds_toArray, List.set_cons_zero, List.set_cons_succ, i64_w, i32_w]
         rfl
        refine pure_ (i := 2) (N := some 109) (v := ?_) (a' := ?_) #[false, true, true, false, false, false, false, false, false, false, false] rfl rfl (any_of HT_.out (by kernel_rfl)) (fun _ _ _ h => h) (Or.inl ⟨by rfl, ?_⟩) ?_ ?_
        rotate_left
        ·intro w'
         go_simp
         with_reducible rfl
        rotate_left
        ·simp only [Act.put, List.setIfInBounds_toArray, List.set_cons_zero, List.set_cons_succ, i64_w, i32_w]
         rfl
        refine pure_ (i := 3) (N := some 110) (v := ?_) (a' := ?_) #[false, true, true, true, false, false, false, false, false, false, false] rfl rfl (any_of HT_.out (by kernel_rfl)) (fun _ _ _ h => h) (Or.inl ⟨by rfl, ?_⟩) ?_ ?_
        rotate_left
        ·intro w'
         go_simp
         with_reducible rfl
        rotate_left
        ·simp only [Act.put, List.setIfInBounds_toArray, List.set_cons_zero, List.set_cons_succ, i64_w, i32_w]
         rfl
        refine pure_ (i := 4) (N := some 111) (v := undef) (a' := ?_) #[false, true, true, true, true, false, false, false, false, false, false] rfl rfl (any_of HT_.out (by kernel_rfl)) (fun _ _ _ h => h) (Or.inr ⟨by rfl, rfl⟩) ?_ ?_
        rotate_left
        ·simp only [Act.put, List.setIfInBounds_toArray, List.set_cons_zero, List.set_cons_succ, i64_w, i32_w]
         rfl
        refine pure_ (i := 5) (N := some 112) (v := undef) (a' := ?_) #[false, true, true, true, true, true, false, false, false, false, false] rfl rfl (any_of HT_.out (by kernel_rfl)) (fun _ _ _ h => h) (Or.inr ⟨by rfl, rfl⟩) ?_ ?_
        rotate_left
        ·simp only [Act.put, List.setIfInBounds_toArray, List.set_cons_zero, List.set_cons_succ, i64_w, i32_w]
         rfl
        refine pure_ (i := 6) (N := some 113) (v := undef) (a' := ?_) #[false, true, true, true, true, true, true, false, false, false, false] rfl rfl (any_of HT_.out (by kernel_rfl)) (fun _ _ _ h => h) (Or.inr ⟨by rfl, rfl⟩) ?_ ?_
        rotate_left
        ·simp only [Act.put, List.setIfInBounds_toArray, List.set_cons_zero, List.set_cons_succ, i64_w, i32_w]
         rfl
        refine pure_ (i := 7) (N := some 114) (v := undef) (a' := ?_) #[false, true, true, true, true, true, true, true, false, false, false] rfl rfl (any_of HT_.out (by kernel_rfl)) (fun _ _ _ h => h) (Or.inr ⟨by rfl, rfl⟩) ?_ ?_
        rotate_left
        ·simp only [Act.put, List.setIfInBounds_toArray, List.set_cons_zero, List.set_cons_succ, i64_w, i32_w]
         rfl
        refine pure_ (i := 8) (N := some 115) (v := ?_) (a' := ?_) #[false, true, true, true, true, true, true, true, true, false, false] rfl rfl (any_of HT_.out (by kernel_rfl)) (fun _ _ _ h => h) (Or.inl ⟨by rfl, ?_⟩) ?_ ?_
        rotate_left
        ·intro w'
         go_simp
         with_reducible rfl
        rotate_left
        ·simp only [Act.put, List.setIfInBounds_toArray, List.set_cons_zero, List.set_cons_succ, i64_w, i32_w]
         rfl
        refine take_ (i := 0) (N := some 107) (v := ?_) (a' := ?_) #[true, true, true, true, true, true, true, true, true, false, false] rfl rfl (take_ofW HT_.out HW_.out (by kernel_rfl)) (fun _ _ _ h => h) (Or.inl ⟨by rfl, ?_⟩) hHeld ?_ ?_
        rotate_left
        ·rintro w' ⟨s0, s1⟩
         go_simp
         with_reducible rfl
        rotate_left
        ·simp only [Act.put, List.setIfInBounds_toArray, List.set_cons_zero, List.set_cons_succ, i64_w, i32_w]
         rfl
        refine one_ (i := 9) (N := none) #[true, true, true, true, true, true, true, true, true, true, false] rfl rfl (one_of HT_.out (by kernel_rfl)) (by decide) (fun K hK => ?_)
        have M7 : A7.cell? ⟨b0, 0, none⟩ = some (.slice none 0 0) := (blk_cell a5.out 0).trans rfl
        have K7 := blk_frozen a5.out 0
        have D2 := b4.out
        have D3 := b3.out
        have M8 : A7.cell? ⟨b0, 1, none⟩ = some (.slice none 0 0) := (blk_cell a5.out 1).trans rfl
        have K8 := blk_frozen a5.out 1
        have D4 := b4.out
        have D5 := b3.out
        refine skip_ (w1 := ?_) (by rfl) rfl ?_ ?_
        rotate_left
        ·go_simp
         rfl
        refine hK.out _ _ ⟨((cell_far (p := ⟨b0, _, none⟩) b4.out _).trans (((cell_far (p := ⟨b0, _, none⟩) b4.out _).trans (hHeld.1)))), ((cell_far (p := ⟨b0, _, none⟩) b4.out _).trans (((cell_far (p := ⟨b0, _, none⟩) b4.out _).trans (hHeld.2))))⟩ (fun hHeld => ?_)
        clear hK K
        refine pure_ (i := 10) (N := some 5) (v := ?_) (a' := ?_) #[true, true, true, true, true, true, true, true, true, true, true] rfl rfl (any_of HT_.out (by kernel_rfl)) (fun _ _ _ h => h) (Or.inl ⟨by rfl, ?_⟩) ?_ ?_
        rotate_left
        ·intro w'
         go_simp
         with_reducible rfl
        rotate_left
        ·simp only [Act.put, List.setIfInBounds_toArray, List.set_cons_zero, List.set_cons_succ, i64_w, i32_w]
         rfl
        refine done_ (done_of HT_.out (by kernel_rfl)) ?_
        try go_wp2
        refine bodyPost_ret (results_ct rfl _ _ b0 39 #[.slice i6 a2.length i7, .slice e2 a8.length e3] (0, 0) _ rfl (by refine blk_put (cs := #[.slice i6 a2.length i7, .slice none 0 0]) ?_ 1 _ rfl; refine blk_put (cs := #[.slice none 0 0, .slice none 0 0]) ?_ 0 _ rfl; exact a5.out) Try.underlying39 rfl (by kernel_rfl)) rfl ?_
        exact ⟨_, _, rfl, by exact Kd.R_mono (Kd.R_far (p := ⟨b0, 1, none⟩) (Kd.R_far (p := ⟨b0, 0, none⟩) (Kd.R_types a4.out a5.out (by decide)) (fun _ hk => hk.2) (.slice i6 a2.length i7)) (fun _ hk => hk.2) (.slice e2 a8.length e3)) (fun _ hk => trivial), by exact Kd.R_mono (Kd.R_far (p := ⟨b0, 1, none⟩) (Kd.R_far (p := ⟨b0, 0, none⟩) (Kd.R_types d1.out a5.out (by decide)) (fun _ hk => hk.2) (.slice i6 a2.length i7)) (fun _ hk => hk.2) (.slice e2 a8.length e3)) (fun _ hk => trivial), by repeat (first | (with_reducible first | exact HB.out | apply below_alloc | apply pw_below_drewN | apply below_drew1 | refine below_set ?_ d7.out | refine below_set ?_ d8.out) | exact HB.out)⟩
      ·rw [if_neg h6] at H
       have q4 : (a9 == (l0.length : Int)) = false := beq_eq_false_iff_ne.mpr h6
       have q5 : (a9 != (l0.length : Int)) = true := bne_iff_ne.mpr h6
       by_cases o4 : 0 ≤ a9
       ·rw [if_pos o4] at H
        have w6 : decide (0 ≤ a9) = true := decide_eq_true o4
        clear o4
        by_cases o5 : a9 < (l0.length : Int)
        ·rw [if_pos o5] at H
         have w7 : decide (a9 < (l0.length : Int)) = true := decide_eq_true o5
         clear o5
         have p4 := Aside0.mk H
         clear H
         have K9 := b4.out
         have L0 := b3.out
         have t9 : wc.cell? ⟨a7, 0, none⟩ = some (b1) := (blk_cell a3.out 0).trans rfl
         have u0 : wc.cell? ⟨a7, 1, none⟩ = some (b7) := (blk_cell a3.out 1).trans rfl
         have u1 := blk_frozen a3.out 0
         have u2 := blk_frozen a3.out 1
         go_upto_region 18 with (first | ((with_reducible refine gate_builtin (b := .append) (xs := #[.tmp 54, .tmp 56]) rfl ?_); (try (refine gate_guard (by rfl) ?_; dsimp only)); at_builtin; refine Kd.R_append (Kd.int .u8) (w0 := w) w.heap.size rfl (.tmp 54) (.tmp 56) 27 5 (.int .u8 0) 1 rfl Try.underlying27 info5 rfl (by decide) (by omega) b7 b2 e9 [.int .u8 e9] (fun _ => True) (fun _ => False) rfl rfl ?aP (fun _ hk => hk.elim) ?aF ?aO ?aB ?aS ?aL ?_; (case aP => exact rfl); (case aB => exact (HB.out)); (case aF => exact (fun _ _ => trivial)); (case aO => exact (by exact a6.out)); (case aS => exact (below_size (HB.out))); (case aL => have := m9.out; omega); intro v2 A8 ho hb hg hat; rw [← n0.out] at ho; have d2 := Aside0.mk (Kd.R_over' (by exact a4.out) (Kd.R_typed (by exact a6.out)) (by decide) hg); have d3 := Aside0.mk (blk_grown a5.out hg (Kd.R_ne a6.out a5.out (by decide))); have d4 := Aside0.mk (blk_grown a3.out hg (Kd.R_ne a6.out a3.out (by decide))); have d5 := Aside0.mk (hb); have d6 := Aside0.mk (ho); clear a4; clear a5; clear a3; clear HB; clear a6; have a4 := d2; have a5 := d3; have a3 := d4; have HB := d5; have d1 := d6; clear d2 d3 d4 d5 d6; clear ho hb hg hat; obtain ⟨c7, d0, C0⟩ := Kd.R_slice d1.out; subst C0; have u3 : A8.cell? ⟨a7, 0, none⟩ = some (b1) := (blk_cell a3.out 0).trans rfl; have u4 : A8.cell? ⟨a7, 1, none⟩ = some (b7) := (blk_cell a3.out 1).trans rfl; have u5 := blk_frozen a3.out 0; have u6 := blk_frozen a3.out 1; have n1 : 0 ≤ (a9 : Int) := of_decide_eq_true (by assumption); have n2 : a9 < (l0.length : Int) := of_decide_eq_true (by assumption); obtain ⟨w8, C1, e5⟩ := Kd.at_int A1.out a9 n1 n2; cases C1; have g0 : w8.block ≠ a7 := Nat.ne_of_lt (Nat.lt_of_lt_of_le (by have := World.block_lt_of_cell? _ _ e5; first | rwa [add_block] at this | exact this) w5.out); replace e5 := (HB.out.cell (World.block_lt_of_cell? w _ e5)).trans e5; replace e5 := (cell_far (p := ⟨a7, 1, none⟩) (by first | (rw [add_block]; exact g0) | (show (Addr.add _ _).block ≠ _; rw [add_block]; exact g0) | exact g0) (.slice c7 a8.length d0)).trans e5; clear g0; replace n1 := eq_true n1; replace n2 := eq_true n2))
         go_cut [80] (fun J4 wc => ∃ (kq : Nat) (h0 : Bool), J4 = .bool h0 ∧ Aside0 (stanzaref07_pattern.j4 kq l0 a1 b9 a9 (rd l0 a9) h0 a2 a8 = some (r1, r2, r3)) ∧ Aside0 (kq ≤ o0) ∧ Aside0 (Kd.R (Kd.int .i32) 21 wc w.heap.size (fun _ => True) b1 a2) ∧ Aside0 (Kd.R (Kd.int .u8) 5 wc w.heap.size (fun _ => True) (.slice c7 a8.length d0) a8) ∧ Aside0 (wc.heap[b0]? = some (.cells #[(.slice none 0 0), (.slice none 0 0)] 39 (0, 0))) ∧ Aside0 (wc.heap[a7]? = some (.cells #[b1, (.slice c7 a8.length d0)] 39 (0, 0))) ∧ Aside0 (Below w.heap.size w wc))
         case first =>
          have H := p4.out
          clear p4
          by_cases h9 : (rd l0 a9) = 45
          ·rw [if_pos h9] at H
           have g1 : ((rd l0 a9) == 45) = true := beq_iff_eq.mpr h9
           have q7 : ((rd l0 a9) != 45) = false := bne_eq_false_iff_eq.mpr h9
           clear h9
           (first | rw [g1] | (simp only [i64_w, i32_w]; rw [g1]) | skip)
           have H' := Aside0.mk H
           clear H
           go_wp2
           go_meet
           case rel => exact ⟨_, (true), (rfl), H', ⟨by have := d9.out; have := g3.out; first | omega | exact Nat.le_refl _⟩, ⟨by exact Kd.R_mono (Kd.R_far (p := ⟨a7, 1, none⟩) (Kd.R_types a4.out a3.out (by decide)) (fun _ hk => hk.2) (.slice c7 a8.length d0)) (fun _ hk => trivial)⟩, ⟨by exact Kd.R_mono (Kd.R_far (p := ⟨a7, 1, none⟩) (Kd.R_types d1.out a3.out (by decide)) (fun _ hk => hk.2) (.slice c7 a8.length d0)) (fun _ hk => trivial)⟩, ⟨by refine blk_far ?_ b3.out _; exact a5.out⟩, ⟨by refine blk_put (cs := #[b1, b7]) ?_ 1 _ rfl; exact a3.out⟩, ⟨by repeat (first | (with_reducible first | exact HB.out | apply below_alloc | apply pw_below_drewN | apply below_drew1 | refine below_set ?_ d7.out | refine below_set ?_ d8.out) | exact HB.out)⟩⟩
          ·rw [if_neg h9] at H
           have g1 : ((rd l0 a9) == 45) = false := beq_eq_false_iff_ne.mpr h9
           have q7 : ((rd l0 a9) != 45) = true := bne_iff_ne.mpr h9
           (first | rw [g1] | (simp only [i64_w, i32_w]; rw [g1]) | skip)
           by_cases i8 : (rd l0 a9) ≥ 48
           ·rw [if_pos i8] at H
            have q8 : decide (48 ≤ (rd l0 a9)) = true := decide_eq_true i8
            clear i8
            by_cases i9 : (rd l0 a9) ≤ 57
            ·rw [if_pos i9] at H
             have q9 : decide ((rd l0 a9) ≤ 57) = true := decide_eq_true i9
             clear i9
             have H' := Aside0.mk H
             clear H
             go_wp2
             go_meet
             case rel => exact ⟨_, (true), (rfl), H', ⟨by have := d9.out; have := g3.out; first | omega | exact Nat.le_refl _⟩, ⟨by exact Kd.R_mono (Kd.R_far (p := ⟨a7, 1, none⟩) (Kd.R_types a4.out a3.out (by decide)) (fun _ hk => hk.2) (.slice c7 a8.length d0)) (fun _ hk => trivial)⟩, ⟨by exact Kd.R_mono (Kd.R_far (p := ⟨a7, 1, none⟩) (Kd.R_types d1.out a3.out (by decide)) (fun _ hk => hk.2) (.slice c7 a8.length d0)) (fun _ hk => trivial)⟩, ⟨by refine blk_far ?_ b3.out _; exact a5.out⟩, ⟨by refine blk_put (cs := #[b1, b7]) ?_ 1 _ rfl; exact a3.out⟩, ⟨by repeat (first | (with_reducible first | exact HB.out | apply below_alloc | apply pw_below_drewN | apply below_drew1 | refine below_set ?_ d7.out | refine below_set ?_ d8.out) | exact HB.out)⟩⟩
            ·rw [if_neg i9] at H
             have q9 : decide ((rd l0 a9) ≤ 57) = false := decide_eq_false i9
             clear i9
             have H' := Aside0.mk H
             clear H
             go_wp2
             go_meet
             case rel => exact ⟨_, (((rd l0 a9) == 65533)), (rfl), H', ⟨by have := d9.out; have := g3.out; first | omega | exact Nat.le_refl _⟩, ⟨by exact Kd.R_mono (Kd.R_far (p := ⟨a7, 1, none⟩) (Kd.R_types a4.out a3.out (by decide)) (fun _ hk => hk.2) (.slice c7 a8.length d0)) (fun _ hk => trivial)⟩, ⟨by exact Kd.R_mono (Kd.R_far (p := ⟨a7, 1, none⟩) (Kd.R_types d1.out a3.out (by decide)) (fun _ hk => hk.2) (.slice c7 a8.length d0)) (fun _ hk => trivial)⟩, ⟨by refine blk_far ?_ b3.out _; exact a5.out⟩, ⟨by refine blk_put (cs := #[b1, b7]) ?_ 1 _ rfl; exact a3.out⟩, ⟨by repeat (first | (with_reducible first | exact HB.out | apply below_alloc | apply pw_below_drewN | apply below_drew1 | refine below_set ?_ d7.out | refine below_set ?_ d8.out) | exact HB.out)⟩⟩
           ·rw [if_neg i8] at H
            have q8 : decide (48 ≤ (rd l0 a9)) = false := decide_eq_false i8
            clear i8
            have H' := Aside0.mk H
            clear H
            go_wp2
            go_meet
            case rel => exact ⟨_, (((rd l0 a9) == 65533)), (rfl), H', ⟨by have := d9.out; have := g3.out; first | omega | exact Nat.le_refl _⟩, ⟨by exact Kd.R_mono (Kd.R_far (p := ⟨a7, 1, none⟩) (Kd.R_types a4.out a3.out (by decide)) (fun _ hk => hk.2) (.slice c7 a8.length d0)) (fun _ hk => trivial)⟩, ⟨by exact Kd.R_mono (Kd.R_far (p := ⟨a7, 1, none⟩) (Kd.R_types d1.out a3.out (by decide)) (fun _ hk => hk.2) (.slice c7 a8.length d0)) (fun _ hk => trivial)⟩, ⟨by refine blk_far ?_ b3.out _; exact a5.out⟩, ⟨by refine blk_put (cs := #[b1, b7]) ?_ 1 _ rfl; exact a3.out⟩, ⟨by repeat (first | (with_reducible first | exact HB.out | apply below_alloc | apply pw_below_drewN | apply below_drew1 | refine below_set ?_ d7.out | refine below_set ?_ d8.out) | exact HB.out)⟩⟩
         case rest =>
          clear p4
          try clear c1
          try clear c2
          try clear p2
          try clear q2
          try clear u9
          try clear c3
          try clear p3
          try clear c4
          try clear c5
          try clear c6
          try clear p6
          try clear c8
          try clear f5
          try clear c9
          try clear m0
          try clear h5
          try clear g2
          try clear e6
          try clear i1
          try clear i2
          try clear k2
          try clear g7
          try clear m1
          try clear m2
          try clear J0
          try clear g8
          try clear m5
          try clear m6
          try clear J1
          try clear A4
          try clear A5
          try clear B7
          try clear o1
          try clear h6
          try clear q4
          try clear q5
          try clear i3
          try clear q6
          try clear N3
          try clear N4
          try clear N5
          try clear o4
          try clear w6
          try clear o5
          try clear w7
          try clear N6
          try clear h9
          try clear g1
          try clear q7
          try clear i8
          try clear q8
          try clear i9
          try clear q9
          try clear k3
          try clear k4
          try clear k7
          try clear k8
          try clear l2
          try clear l3
          try clear l6
          try clear l7
          try clear s3
          try clear s4
          try clear s7
          try clear s8
          try clear t1
          try clear t2
          try clear t5
          try clear t6
          try clear t9
          try clear u0
          try clear u3
          try clear u4
          try clear f6
          try clear f7
          try clear k5
          try clear k6
          try clear k9
          try clear l1
          try clear l4
          try clear l5
          try clear l8
          try clear l9
          try clear s5
          try clear s6
          try clear s9
          try clear t0
          try clear t3
          try clear t4
          try clear t7
          try clear t8
          try clear u1
          try clear u2
          try clear u5
          try clear u6
          try clear f8
          try clear f9
          try clear e4
          try clear e5
          try clear p2
          try clear A4
          try clear g4
          try clear n1
          try clear p3
          try clear p6
          try clear q2
          try clear A5
          try clear g5
          try clear n2
          obtain ⟨kq, h0, rfl, HA, h4, a4, a6, a5, a3, HB⟩ := hcut
          cases kq with
          | zero => exact absurd HA.out (by simp [stanzaref07_pattern.j4])
          | succ e8 =>
           have H := HA.out
           clear HA
           simp only [stanzaref07_pattern.j4] at H
           by_cases r0 : h0 = true
           ·subst r0
            have H1 : (some (a2, a8, false)) = some (r1, r2, r3) := by rw [if_pos rfl] at H; exact H
            clear H
            have H := H1
            clear H1
            simp only [Option.some.injEq, Prod.mk.injEq] at H
            obtain ⟨rfl, rfl, rfl⟩ := H
            have L1 := b4.out
            have L2 := b3.out
            have D6 : wc.cell? ⟨a7, 0, none⟩ = some (b1) := (blk_cell a3.out 0).trans rfl
            have D7 : wc.cell? ⟨a7, 1, none⟩ = some (.slice c7 a8.length d0) := (blk_cell a3.out 1).trans rfl
            have D8 := blk_frozen a3.out 0
            have D9 := blk_frozen a3.out 1
            obtain ⟨n3, n4, C2⟩ := Kd.R_slice a4.out
            subst C2
            have E0 : wc.cell? ⟨b0, 0, none⟩ = some (.slice none 0 0) := (blk_cell a5.out 0).trans rfl
            have E1 : wc.cell? ⟨b0, 1, none⟩ = some (.slice none 0 0) := (blk_cell a5.out 1).trans rfl
            have E2 := blk_frozen a5.out 0
            have E3 := blk_frozen a5.out 1
            go_wp2
            refine bodyPost_ret (results_ct rfl _ _ b0 39 #[.slice n3 a2.length n4, .slice c7 a8.length d0] (0, 0) _ rfl (by refine blk_put (cs := #[.slice n3 a2.length n4, .slice none 0 0]) ?_ 1 _ rfl; refine blk_put (cs := #[.slice none 0 0, .slice none 0 0]) ?_ 0 _ rfl; exact a5.out) Try.underlying39 rfl (by kernel_rfl)) rfl ?_
            exact ⟨_, _, rfl, by exact Kd.R_mono (Kd.R_far (p := ⟨b0, 1, none⟩) (Kd.R_far (p := ⟨b0, 0, none⟩) (Kd.R_types a4.out a5.out (by decide)) (fun _ hk => hk.2) (.slice n3 a2.length n4)) (fun _ hk => hk.2) (.slice c7 a8.length d0)) (fun _ hk => trivial), by exact Kd.R_mono (Kd.R_far (p := ⟨b0, 1, none⟩) (Kd.R_far (p := ⟨b0, 0, none⟩) (Kd.R_types a6.out a5.out (by decide)) (fun _ hk => hk.2) (.slice n3 a2.length n4)) (fun _ hk => hk.2) (.slice c7 a8.length d0)) (fun _ hk => trivial), by repeat (first | (with_reducible first | exact HB.out | apply below_alloc | apply pw_below_drewN | apply below_drew1 | refine below_set ?_ d7.out | refine below_set ?_ d8.out) | exact HB.out)⟩
           ·replace r0 := Bool.eq_false_iff.mpr r0
            subst r0
            have H1 : (if (rd l0 a9) = 46 then (if a1 = true then (some (a2, a8, false)) else (if a9 = 0 then (if a2.length < 35184372088832 then (stanzaref07_pattern.l0 e8 l0 a1 b9 (wrap64 (a9 + 1)) (a2 ++ [(rd l0 a9)]) a8) else (none)) else (if a9 = (wrap64 ((l0.length : Int) - 1)) then (if a2.length < 35184372088832 then (stanzaref07_pattern.l0 e8 l0 a1 b9 (wrap64 (a9 + 1)) (a2 ++ [(rd l0 a9)]) a8) else (none)) else (some (a2, a8, false))))) else (if a2.length < 35184372088832 then (stanzaref07_pattern.l0 e8 l0 a1 (wrap64 (b9 + 1)) (wrap64 (a9 + 1)) (a2 ++ [(rd l0 a9)]) a8) else (none))) = some (r1, r2, r3) := by rw [if_neg (show ¬ (false = true) by decide)] at H; exact H
            clear H
            have H := H1
            clear H1
            by_cases j0 : (rd l0 a9) = 46
            ·rw [if_pos j0] at H
             have w9 : ((rd l0 a9) == 46) = true := beq_iff_eq.mpr j0
             have x2 : ((rd l0 a9) != 46) = false := bne_eq_false_iff_eq.mpr j0
             clear j0
             by_cases r4 : a1 = true
             ·subst r4
              have H1 : (some (a2, a8, false)) = some (r1, r2, r3) := by rw [if_pos rfl] at H; exact H
              clear H
              have H := H1
              clear H1
              simp only [Option.some.injEq, Prod.mk.injEq] at H
              obtain ⟨rfl, rfl, rfl⟩ := H
              have L3 := b4.out
              have L4 := b3.out
              have E4 : wc.cell? ⟨a7, 0, none⟩ = some (b1) := (blk_cell a3.out 0).trans rfl
              have E5 : wc.cell? ⟨a7, 1, none⟩ = some (.slice c7 a8.length d0) := (blk_cell a3.out 1).trans rfl
              have E6 := blk_frozen a3.out 0
              have E7 := blk_frozen a3.out 1
              obtain ⟨n5, n6, C3⟩ := Kd.R_slice a4.out
              subst C3
              have E8 : wc.cell? ⟨b0, 0, none⟩ = some (.slice none 0 0) := (blk_cell a5.out 0).trans rfl
              have E9 : wc.cell? ⟨b0, 1, none⟩ = some (.slice none 0 0) := (blk_cell a5.out 1).trans rfl
              have F0 := blk_frozen a5.out 0
              have F1 := blk_frozen a5.out 1
              go_wp2
              refine bodyPost_ret (results_ct rfl _ _ b0 39 #[.slice n5 a2.length n6, .slice c7 a8.length d0] (0, 0) _ rfl (by refine blk_put (cs := #[.slice n5 a2.length n6, .slice none 0 0]) ?_ 1 _ rfl; refine blk_put (cs := #[.slice none 0 0, .slice none 0 0]) ?_ 0 _ rfl; exact a5.out) Try.underlying39 rfl (by kernel_rfl)) rfl ?_
              exact ⟨_, _, rfl, by exact Kd.R_mono (Kd.R_far (p := ⟨b0, 1, none⟩) (Kd.R_far (p := ⟨b0, 0, none⟩) (Kd.R_types a4.out a5.out (by decide)) (fun _ hk => hk.2) (.slice n5 a2.length n6)) (fun _ hk => hk.2) (.slice c7 a8.length d0)) (fun _ hk => trivial), by exact Kd.R_mono (Kd.R_far (p := ⟨b0, 1, none⟩) (Kd.R_far (p := ⟨b0, 0, none⟩) (Kd.R_types a6.out a5.out (by decide)) (fun _ hk => hk.2) (.slice n5 a2.length n6)) (fun _ hk => hk.2) (.slice c7 a8.length d0)) (fun _ hk => trivial), by repeat (first | (with_reducible first | exact HB.out | apply below_alloc | apply pw_below_drewN | apply below_drew1 | refine below_set ?_ d7.out | refine below_set ?_ d8.out) | exact HB.out)⟩
             ·replace r4 := Bool.eq_false_iff.mpr r4
              subst r4
              have H1 : (if a9 = 0 then (if a2.length < 35184372088832 then (stanzaref07_pattern.l0 e8 l0 false b9 (wrap64 (a9 + 1)) (a2 ++ [(rd l0 a9)]) a8) else (none)) else (if a9 = (wrap64 ((l0.length : Int) - 1)) then (if a2.length < 35184372088832 then (stanzaref07_pattern.l0 e8 l0 false b9 (wrap64 (a9 + 1)) (a2 ++ [(rd l0 a9)]) a8) else (none)) else (some (a2, a8, false)))) = some (r1, r2, r3) := by rw [if_neg (show ¬ (false = true) by decide)] at H; exact H
              clear H
              have H := H1
              clear H1
              by_cases j5 : a9 = 0
              ·rw [if_pos j5] at H
               have x3 : (a9 == 0) = true := beq_iff_eq.mpr j5
               have x4 : (a9 != 0) = false := bne_eq_false_iff_eq.mpr j5
               clear j5
               by_cases r5 : a2.length < 35184372088832
               ·rw [if_pos r5] at H
                have x5 := Aside0.mk r5
                clear r5
                obtain ⟨j6, h1⟩ : ∃ y_ : List Int, y_ = (a2 ++ [(rd l0 a9)]) := ⟨_, rfl⟩
                replace H : (stanzaref07_pattern.l0 e8 l0 false b9 (wrap64 (a9 + 1)) j6 a8) = some (r1, r2, r3) := by first | (rw [h1]; with_reducible exact H) | (have e7 := (Option.bind_some _ _).symm.trans H; rw [h1]; with_reducible exact e7) | (have e7 := (Option.bind_some _ _).symm.trans H; with_reducible exact e7) | with_reducible exact H | (rw [h1]; exact H) | exact H
                have x6 := Aside0.mk h1
                clear h1
                have H' := Aside0.mk H
                clear H
                have L5 := b4.out
                have L6 := b3.out
                have F2 : wc.cell? ⟨a7, 0, none⟩ = some (b1) := (blk_cell a3.out 0).trans rfl
                have F3 : wc.cell? ⟨a7, 1, none⟩ = some (.slice c7 a8.length d0) := (blk_cell a3.out 1).trans rfl
                have F4 := blk_frozen a3.out 0
                have F5 := blk_frozen a3.out 1
                go_wp2_with (first | ((with_reducible refine gate_builtin (b := .append) (xs := #[.tmp 100, .tmp 102]) rfl ?_); (try (refine gate_guard (by rfl) ?_; dsimp only)); at_builtin; refine Kd.R_append (Kd.int .i32) (w0 := w) w.heap.size rfl (.tmp 100) (.tmp 102) 23 21 (.int .i32 0) 4 rfl Try.underlying23 info21 rfl (by decide) (by omega) b1 a2 (rd l0 a9) [.int .i32 (rd l0 a9)] (fun _ => True) (fun _ => False) rfl rfl ?aP (fun _ hk => hk.elim) ?aF ?aO ?aB ?aS ?aL ?_; (case aP => exact rfl); (case aB => exact (HB.out)); (case aF => exact (fun _ _ => trivial)); (case aO => exact (by exact a4.out)); (case aS => exact (below_size (HB.out))); (case aL => have := x5.out; omega); intro M9 A9 ho hb hg hat; rw [← x6.out] at ho; have d2 := Aside0.mk (Kd.R_over' (by exact a6.out) (Kd.R_typed (by exact a4.out)) (by decide) hg); have d3 := Aside0.mk (blk_grown a5.out hg (Kd.R_ne a4.out a5.out (by decide))); have d4 := Aside0.mk (blk_grown a3.out hg (Kd.R_ne a4.out a3.out (by decide))); have d5 := Aside0.mk (hb); have d6 := Aside0.mk (ho); clear a6; clear a5; clear a3; clear HB; clear a4; have a6 := d2; have a5 := d3; have a3 := d4; have HB := d5; have r6 := d6; clear d2 d3 d4 d5 d6; clear ho hb hg hat; obtain ⟨p5, p7, C4⟩ := Kd.R_slice r6.out; subst C4; have F6 : A9.cell? ⟨a7, 0, none⟩ = some (b1) := (blk_cell a3.out 0).trans rfl; have F7 : A9.cell? ⟨a7, 1, none⟩ = some (.slice c7 a8.length d0) := (blk_cell a3.out 1).trans rfl; have F8 := blk_frozen a3.out 0; have F9 := blk_frozen a3.out 1))
                go_roundg e8
                case measure => have := d9.out; have := g3.out; have := h4.out; omega
                case rel => exact ⟨(b9), (wrap64 (a9 + 1)), (j6), (a8), (.slice p5 j6.length p7), (.slice c7 a8.length d0), (rfl), (rfl), H', ⟨by have := d9.out; have := g3.out; have := h4.out; omega⟩, ⟨by exact Kd.R_mono (Kd.R_far (p := ⟨a7, 0, none⟩) (Kd.R_types r6.out a3.out (by decide)) (fun _ hk => hk.2) (.slice p5 j6.length p7)) (fun _ hk => trivial)⟩, ⟨by exact Kd.R_mono (Kd.R_far (p := ⟨a7, 0, none⟩) (Kd.R_types a6.out a3.out (by decide)) (fun _ hk => hk.2) (.slice p5 j6.length p7)) (fun _ hk => trivial)⟩, ⟨by refine blk_far ?_ b3.out _; exact a5.out⟩, ⟨by refine blk_put (cs := #[b1, .slice c7 a8.length d0]) ?_ 0 _ rfl; exact a3.out⟩, ⟨by repeat (first | (with_reducible first | exact HB.out | apply below_alloc | apply pw_below_drewN | apply below_drew1 | refine below_set ?_ d7.out | refine below_set ?_ d8.out) | exact HB.out)⟩⟩
               ·rw [if_neg r5] at H
                exact absurd H (by simp)
              ·rw [if_neg j5] at H
               have x3 : (a9 == 0) = false := beq_eq_false_iff_ne.mpr j5
               have x4 : (a9 != 0) = true := bne_iff_ne.mpr j5
               by_cases j7 : a9 = (wrap64 ((l0.length : Int) - 1))
               ·rw [if_pos j7] at H
                have y9 : (a9 == (wrap64 ((l0.length : Int) - 1))) = true := beq_iff_eq.mpr j7
                have z0 : (a9 != (wrap64 ((l0.length : Int) - 1))) = false := bne_eq_false_iff_eq.mpr j7
                clear j7
                by_cases r7 : a2.length < 35184372088832
                ·rw [if_pos r7] at H
                 have z1 := Aside0.mk r7
                 clear r7
                 obtain ⟨j8, h2⟩ : ∃ y_ : List Int, y_ = (a2 ++ [(rd l0 a9)]) := ⟨_, rfl⟩
                 replace H : (stanzaref07_pattern.l0 e8 l0 false b9 (wrap64 (a9 + 1)) j8 a8) = some (r1, r2, r3) := by first | (rw [h2]; with_reducible exact H) | (have e7 := (Option.bind_some _ _).symm.trans H; rw [h2]; with_reducible exact e7) | (have e7 := (Option.bind_some _ _).symm.trans H; with_reducible exact e7) | with_reducible exact H | (rw [h2]; exact H) | exact H
                 have z2 := Aside0.mk h2
                 clear h2
                 have H' := Aside0.mk H
                 clear H
                 have L7 := b4.out
                 have L8 := b3.out
                 have G0 : wc.cell? ⟨a7, 0, none⟩ = some (b1) := (blk_cell a3.out 0).trans rfl
                 have G1 : wc.cell? ⟨a7, 1, none⟩ = some (.slice c7 a8.length d0) := (blk_cell a3.out 1).trans rfl
                 have G2 := blk_frozen a3.out 0
                 have G3 := blk_frozen a3.out 1
                 go_wp2_with (first | ((with_reducible refine gate_builtin (b := .append) (xs := #[.tmp 100, .tmp 102]) rfl ?_); (try (refine gate_guard (by rfl) ?_; dsimp only)); at_builtin; refine Kd.R_append (Kd.int .i32) (w0 := w) w.heap.size rfl (.tmp 100) (.tmp 102) 23 21 (.int .i32 0) 4 rfl Try.underlying23 info21 rfl (by decide) (by omega) b1 a2 (rd l0 a9) [.int .i32 (rd l0 a9)] (fun _ => True) (fun _ => False) rfl rfl ?aP (fun _ hk => hk.elim) ?aF ?aO ?aB ?aS ?aL ?_; (case aP => exact rfl); (case aB => exact (HB.out)); (case aF => exact (fun _ _ => trivial)); (case aO => exact (by exact a4.out)); (case aS => exact (below_size (HB.out))); (case aL => have := z1.out; omega); intro N0 B0 ho hb hg hat; rw [← z2.out] at ho; have d2 := Aside0.mk (Kd.R_over' (by exact a6.out) (Kd.R_typed (by exact a4.out)) (by decide) hg); have d3 := Aside0.mk (blk_grown a5.out hg (Kd.R_ne a4.out a5.out (by decide))); have d4 := Aside0.mk (blk_grown a3.out hg (Kd.R_ne a4.out a3.out (by decide))); have d5 := Aside0.mk (hb); have d6 := Aside0.mk (ho); clear a6; clear a5; clear a3; clear HB; clear a4; have a6 := d2; have a5 := d3; have a3 := d4; have HB := d5; have r8 := d6; clear d2 d3 d4 d5 d6; clear ho hb hg hat; obtain ⟨p8, p9, C5⟩ := Kd.R_slice r8.out; subst C5; have G4 : B0.cell? ⟨a7, 0, none⟩ = some (b1) := (blk_cell a3.out 0).trans rfl; have G5 : B0.cell? ⟨a7, 1, none⟩ = some (.slice c7 a8.length d0) := (blk_cell a3.out 1).trans rfl; have G6 := blk_frozen a3.out 0; have G7 := blk_frozen a3.out 1))
                 go_roundg e8
                 case measure => have := d9.out; have := g3.out; have := h4.out; omega
                 case rel => exact ⟨(b9), (wrap64 (a9 + 1)), (j8), (a8), (.slice p8 j8.length p9), (.slice c7 a8.length d0), (rfl), (rfl), H', ⟨by have := d9.out; have := g3.out; have := h4.out; omega⟩, ⟨by exact Kd.R_mono (Kd.R_far (p := ⟨a7, 0, none⟩) (Kd.R_types r8.out a3.out (by decide)) (fun _ hk => hk.2) (.slice p8 j8.length p9)) (fun _ hk => trivial)⟩, ⟨by exact Kd.R_mono (Kd.R_far (p := ⟨a7, 0, none⟩) (Kd.R_types a6.out a3.out (by decide)) (fun _ hk => hk.2) (.slice p8 j8.length p9)) (fun _ hk => trivial)⟩, ⟨by refine blk_far ?_ b3.out _; exact a5.out⟩, ⟨by refine blk_put (cs := #[b1, .slice c7 a8.length d0]) ?_ 0 _ rfl; exact a3.out⟩, ⟨by repeat (first | (with_reducible first | exact HB.out | apply below_alloc | apply pw_below_drewN | apply below_drew1 | refine below_set ?_ d7.out | refine below_set ?_ d8.out) | exact HB.out)⟩⟩
                ·rw [if_neg r7] at H
                 exact absurd H (by simp)
               ·rw [if_neg j7] at H
                have y9 : (a9 == (wrap64 ((l0.length : Int) - 1))) = false := beq_eq_false_iff_ne.mpr j7
                have z0 : (a9 != (wrap64 ((l0.length : Int) - 1))) = true := bne_iff_ne.mpr j7
                simp only [Option.some.injEq, Prod.mk.injEq] at H
                obtain ⟨rfl, rfl, rfl⟩ := H
                have L9 := b4.out
                have M0 := b3.out
                have G8 : wc.cell? ⟨a7, 0, none⟩ = some (b1) := (blk_cell a3.out 0).trans rfl
                have G9 : wc.cell? ⟨a7, 1, none⟩ = some (.slice c7 a8.length d0) := (blk_cell a3.out 1).trans rfl
                have H0 := blk_frozen a3.out 0
                have H2 := blk_frozen a3.out 1
                obtain ⟨n7, n8, C6⟩ := Kd.R_slice a4.out
                subst C6
                have H3 : wc.cell? ⟨b0, 0, none⟩ = some (.slice none 0 0) := (blk_cell a5.out 0).trans rfl
                have H4 : wc.cell? ⟨b0, 1, none⟩ = some (.slice none 0 0) := (blk_cell a5.out 1).trans rfl
                have H5 := blk_frozen a5.out 0
                have H6 := blk_frozen a5.out 1
                go_wp2
                refine bodyPost_ret (results_ct rfl _ _ b0 39 #[.slice n7 a2.length n8, .slice c7 a8.length d0] (0, 0) _ rfl (by refine blk_put (cs := #[.slice n7 a2.length n8, .slice none 0 0]) ?_ 1 _ rfl; refine blk_put (cs := #[.slice none 0 0, .slice none 0 0]) ?_ 0 _ rfl; exact a5.out) Try.underlying39 rfl (by kernel_rfl)) rfl ?_
                exact ⟨_, _, rfl, by exact Kd.R_mono (Kd.R_far (p := ⟨b0, 1, none⟩) (Kd.R_far (p := ⟨b0, 0, none⟩) (Kd.R_types a4.out a5.out (by decide)) (fun _ hk => hk.2) (.slice n7 a2.length n8)) (fun _ hk => hk.2) (.slice c7 a8.length d0)) (fun _ hk => trivial), by exact Kd.R_mono (Kd.R_far (p := ⟨b0, 1, none⟩) (Kd.R_far (p := ⟨b0, 0, none⟩) (Kd.R_types a6.out a5.out (by decide)) (fun _ hk => hk.2) (.slice n7 a2.length n8)) (fun _ hk => hk.2) (.slice c7 a8.length d0)) (fun _ hk => trivial), by repeat (first | (with_reducible first | exact HB.out | apply below_alloc | apply pw_below_drewN | apply below_drew1 | refine below_set ?_ d7.out | refine below_set ?_ d8.out) | exact HB.out)⟩
            ·rw [if_neg j0] at H
             have w9 : ((rd l0 a9) == 46) = false := beq_eq_false_iff_ne.mpr j0
             have x2 : ((rd l0 a9) != 46) = true := bne_iff_ne.mpr j0
             by_cases r9 : a2.length < 35184372088832
             ·rw [if_pos r9] at H
              have z3 := Aside0.mk r9
              clear r9
              obtain ⟨j9, h3⟩ : ∃ y_ : List Int, y_ = (a2 ++ [(rd l0 a9)]) := ⟨_, rfl⟩
              replace H : (stanzaref07_pattern.l0 e8 l0 a1 (wrap64 (b9 + 1)) (wrap64 (a9 + 1)) j9 a8) = some (r1, r2, r3) := by first | (rw [h3]; with_reducible exact H) | (have e7 := (Option.bind_some _ _).symm.trans H; rw [h3]; with_reducible exact e7) | (have e7 := (Option.bind_some _ _).symm.trans H; with_reducible exact e7) | with_reducible exact H | (rw [h3]; exact H) | exact H
              have z4 := Aside0.mk h3
              clear h3
              have H' := Aside0.mk H
              clear H
              have M1 := b4.out
              have M2 := b3.out
              have H7 : wc.cell? ⟨a7, 0, none⟩ = some (b1) := (blk_cell a3.out 0).trans rfl
              have H8 : wc.cell? ⟨a7, 1, none⟩ = some (.slice c7 a8.length d0) := (blk_cell a3.out 1).trans rfl
              have H9 := blk_frozen a3.out 0
              have I0 := blk_frozen a3.out 1
              go_wp2_with (first | ((with_reducible refine gate_builtin (b := .append) (xs := #[.tmp 100, .tmp 102]) rfl ?_); (try (refine gate_guard (by rfl) ?_; dsimp only)); at_builtin; refine Kd.R_append (Kd.int .i32) (w0 := w) w.heap.size rfl (.tmp 100) (.tmp 102) 23 21 (.int .i32 0) 4 rfl Try.underlying23 info21 rfl (by decide) (by omega) b1 a2 (rd l0 a9) [.int .i32 (rd l0 a9)] (fun _ => True) (fun _ => False) rfl rfl ?aP (fun _ hk => hk.elim) ?aF ?aO ?aB ?aS ?aL ?_; (case aP => exact rfl); (case aB => exact (HB.out)); (case aF => exact (fun _ _ => trivial)); (case aO => exact (by exact a4.out)); (case aS => exact (below_size (HB.out))); (case aL => have := z3.out; omega); intro N1 B1 ho hb hg hat; rw [← z4.out] at ho; have d2 := Aside0.mk (Kd.R_over' (by exact a6.out) (Kd.R_typed (by exact a4.out)) (by decide) hg); have d3 := Aside0.mk (blk_grown a5.out hg (Kd.R_ne a4.out a5.out (by decide))); have d4 := Aside0.mk (blk_grown a3.out hg (Kd.R_ne a4.out a3.out (by decide))); have d5 := Aside0.mk (hb); have d6 := Aside0.mk (ho); clear a6; clear a5; clear a3; clear HB; clear a4; have a6 := d2; have a5 := d3; have a3 := d4; have HB := d5; have s2 := d6; clear d2 d3 d4 d5 d6; clear ho hb hg hat; obtain ⟨q0, q1, C7⟩ := Kd.R_slice s2.out; subst C7; have I1 : B1.cell? ⟨a7, 0, none⟩ = some (b1) := (blk_cell a3.out 0).trans rfl; have I2 : B1.cell? ⟨a7, 1, none⟩ = some (.slice c7 a8.length d0) := (blk_cell a3.out 1).trans rfl; have I3 := blk_frozen a3.out 0; have I4 := blk_frozen a3.out 1))
              go_roundg e8
              case measure => have := d9.out; have := g3.out; have := h4.out; omega
              case rel => exact ⟨(wrap64 (b9 + 1)), (wrap64 (a9 + 1)), (j9), (a8), (.slice q0 j9.length q1), (.slice c7 a8.length d0), (rfl), (rfl), H', ⟨by have := d9.out; have := g3.out; have := h4.out; omega⟩, ⟨by exact Kd.R_mono (Kd.R_far (p := ⟨a7, 0, none⟩) (Kd.R_types s2.out a3.out (by decide)) (fun _ hk => hk.2) (.slice q0 j9.length q1)) (fun _ hk => trivial)⟩, ⟨by exact Kd.R_mono (Kd.R_far (p := ⟨a7, 0, none⟩) (Kd.R_types a6.out a3.out (by decide)) (fun _ hk => hk.2) (.slice q0 j9.length q1)) (fun _ hk => trivial)⟩, ⟨by refine blk_far ?_ b3.out _; exact a5.out⟩, ⟨by refine blk_put (cs := #[b1, .slice c7 a8.length d0]) ?_ 0 _ rfl; exact a3.out⟩, ⟨by repeat (first | (with_reducible first | exact HB.out | apply below_alloc | apply pw_below_drewN | apply below_drew1 | refine below_set ?_ d7.out | refine below_set ?_ d8.out) | exact HB.out)⟩⟩
             ·rw [if_neg r9] at H
              exact absurd H (by simp)
        ·rw [if_neg o5] at H
         exact absurd H (by simp)
       ·rw [if_neg o4] at H
        exact absurd H (by simp)
     ·rw [if_neg o1] at H
      exact absurd H (by simp)
end Go.Proofs.Ytoefjhdcipgacaa.PA
end
section
namespace Go.Proofs.Ytoefjhdcipgacaa.PA
open Go.RowKit Go.Proofs.YtoefjhdcipgacaaW.PrintWords Go.Proofs.YtoefjhdcipgacaaW.PrintLast Go.Proofs.YtoefjhdcipgacaaW.PrintMore
attribute [local go_sem] max2_int min2_int max_two min_two max_three min_three max_four min_four   -- for this text's walks alone
set_option linter.unusedVariables false
set_option linter.unusedSimpArgs false
mutual
def stanzaref07_Letters.l0 : Nat → List (S63) → Int → Option (Bool)
 | 0, _, _ => none
 | k + 1, x0, x3 => if x3 < (x0.length : Int) then (if 0 ≤ x3 then (if ((rd_T63 x0 x3).f0) < 0 then (stanzaref07_Letters.j1 k x0 x3 true) else (if ((rd_T63 x0 x3).f1) < ((rd_T63 x0 x3).f0) then (stanzaref07_Letters.j1 k x0 x3 true) else (if ((rd_T63 x0 x3).f1) > 1114111 then (stanzaref07_Letters.j1 k x0 x3 true) else (if x3 > 0 then (if 0 ≤ (wrap64 (x3 - 1)) then (if (wrap64 (x3 - 1)) < (x0.length : Int) then (stanzaref07_Letters.j1 k x0 x3 (decide (((rd_T63 x0 x3).f0) ≤ ((rd_T63 x0 (wrap64 (x3 - 1))).f1)))) else (none)) else (none)) else (stanzaref07_Letters.j1 k x0 x3 false))))) else (none)) else (some true)
def stanzaref07_Letters.j1 : Nat → List (S63) → Int → Bool → Option (Bool)
 | 0, _, _, _ => none
 | k + 1, x0, x3, m8 => if m8 = true then (some false) else (if 0 ≤ x3 then (if x3 < (x0.length : Int) then (if ((rd_T63 x0 x3).f2) < 0 then (some false) else (if ((rd_T63 x0 x3).f2) > 1114111 then (some false) else (if (wrap64 ((wrap64 (((rd_T63 x0 x3).f2) + (wrap64 ((rd_T63 x0 x3).f1)))) - (wrap64 ((rd_T63 x0 x3).f0)))) > 1114111 then (some false) else (stanzaref07_Letters.l0 k x0 (wrap64 (x3 + 1)))))) else (none)) else (none))
end
def stanzaref07_Letters.f (k : Nat) (l0 : List (S63)) : Option (Bool) := if (l0.length : Int) > 256 then (some false) else (stanzaref07_Letters.l0 k l0 0)
set_option maxHeartbeats 8000000 in
set_option maxRecDepth 100000 in
theorem stanzaref07_Letters.calls (k : Nat) (A0 : Option Addr) (c0 : Nat) (l0 : List (S63)) (r : Bool) (w : World) (m2 : Kd.C k63 w A0 l0.length l0) (m3 : l0.length ≤ c0) (h : stanzaref07_Letters.f k l0 = some r) :
  Calls Try.prog 35 #[.slice A0 l0.length c0] w fun e w' => e = .returned (.bool r) ∧ Drawn0 w w' := by
 have a2 := Aside0.mk m2
 have n2 := Aside0.mk m3
 clear m2 m3
 have H : (if (l0.length : Int) > 256 then (some false) else (stanzaref07_Letters.l0 k l0 0)) = some r := h
 clear h
 by_cases c2 : (l0.length : Int) > 256
 ·rw [if_pos c2] at H
  have i1 : decide (256 < (l0.length : Int)) = true := decide_eq_true c2
  have i2 : decide (256 < l0.length) = true := decide_eq_true (by omega)
  clear c2
  obtain rfl := Option.some.inj H
  go_enter Try.func35, Try.ntmps35
  go_wp2
  repeat (go_quiet (fail); try go_wp2)
  go_ret
  exact ⟨by first | rfl | (simp; done) | (simp [*]; done), by repeat (first | exact Drawn0.refl _ | apply Drawn0.step)⟩
 ·rw [if_neg c2] at H
  have i1 : decide (256 < (l0.length : Int)) = false := decide_eq_false c2
  have i2 : decide (256 < l0.length) = false := decide_eq_false (by omega)
  clear c2
  have H' := Aside0.mk H
  clear H
  go_enter Try.func35, Try.ntmps35
  go_wp2
  repeat (go_quiet (fail); try go_wp2)
  go_loopg [3] k (fun kq v3 w' => ∃ (a1 : Int), v3 = .int .i64 a1 ∧ Aside0 (stanzaref07_Letters.l0 kq l0 a1 = some r) ∧ Aside0 (kq ≤ k) ∧ Drawn0 w w')
  case atStart => exact ⟨(0), (by first | rfl | (simp; done) | (simp [*]; done)), H', ⟨Nat.le_refl _⟩, by repeat (first | exact Drawn0.refl _ | apply Drawn0.step)⟩
  case round =>
   clear H'
   try clear c2
   try clear i1
   try clear i2
   try clear p2
   obtain ⟨a1, rfl, HA, g3, ⟨m1, rfl⟩⟩ := hrel
   cases gk with
   | zero => exact absurd HA.out (by simp [stanzaref07_Letters.l0])
   | succ k1 =>
    have H := HA.out
    clear HA
    simp only [stanzaref07_Letters.l0] at H
    by_cases c3 : a1 < (l0.length : Int)
    ·rw [if_pos c3] at H
     have k7 : decide (a1 < (l0.length : Int)) = true := decide_eq_true c3
     clear c3
     have k8 := Aside0.mk H
     clear H
     go_upto_region 6 with (fail)
     repeat (go_quiet (fail); go_upto_region 6 with (fail))
     go_cut [57] (fun m9 wc => ∃ (kq : Nat) (f9 : Bool), m9 = .bool f9 ∧ Aside0 (stanzaref07_Letters.j1 kq l0 a1 f9 = some r) ∧ Aside0 (kq ≤ k1) ∧ Drawn0 w wc)
     case first =>
      have H := k8.out
      clear k8
      by_cases c5 : 0 ≤ a1
      ·rw [if_pos c5] at H
       have i3 : decide (0 ≤ a1) = true := decide_eq_true c5
       clear c5
       (first | rw [i3] | (simp only [i64_w, i32_w]; rw [i3]) | skip)
       by_cases c6 : ((rd_T63 l0 a1).f0) < 0
       ·rw [if_pos c6] at H
        have k9 : decide (((rd_T63 l0 a1).f0) < 0) = true := decide_eq_true c6
        clear c6
        have H' := Aside0.mk H
        clear H
        have a4 : 0 ≤ (a1 : Int) := of_decide_eq_true (by first | (with_reducible assumption) | assumption)
        have a5 : a1 < (l0.length : Int) := of_decide_eq_true (by first | (with_reducible assumption) | assumption)
        obtain ⟨a3, d0, b8, b9, c4⟩ := at_T63 a2.out a1 a4 a5
        cases d0
        replace a4 := eq_true a4
        replace a5 := eq_true a5
        go_wp2
        repeat (go_quiet (fail); try go_wp2)
        go_meet
        case rel => exact ⟨_, (true), (by first | rfl | (simp; done) | (simp [*]; done)), H', ⟨by have := g3.out; first | omega | exact Nat.le_refl _⟩, by repeat (first | exact Drawn0.refl _ | apply Drawn0.step)⟩
       ·rw [if_neg c6] at H
        have k9 : decide (((rd_T63 l0 a1).f0) < 0) = false := decide_eq_false c6
        clear c6
        by_cases c7 : ((rd_T63 l0 a1).f1) < ((rd_T63 l0 a1).f0)
        ·rw [if_pos c7] at H
         have l1 : decide (((rd_T63 l0 a1).f1) < ((rd_T63 l0 a1).f0)) = true := decide_eq_true c7
         clear c7
         have H' := Aside0.mk H
         clear H
         have a4 : 0 ≤ (a1 : Int) := of_decide_eq_true (by first | (with_reducible assumption) | assumption)
         have a5 : a1 < (l0.length : Int) := of_decide_eq_true (by first | (with_reducible assumption) | assumption)
         obtain ⟨a3, d0, b8, b9, c4⟩ := at_T63 a2.out a1 a4 a5
         cases d0
         replace a4 := eq_true a4
         replace a5 := eq_true a5
         have a6 : 0 ≤ (a1 : Int) := of_decide_eq_true (by first | (with_reducible assumption) | assumption)
         have a7 : a1 < (l0.length : Int) := of_decide_eq_true (by first | (with_reducible assumption) | assumption)
         obtain ⟨d1, d9, d3, d4, d5⟩ := at_T63 a2.out a1 a6 a7
         obtain rfl : a3 = d1 := (by injection d9)
         replace a6 := eq_true a6
         replace a7 := eq_true a7
         have a8 : 0 ≤ (a1 : Int) := of_decide_eq_true (by first | (with_reducible assumption) | assumption)
         have a9 : a1 < (l0.length : Int) := of_decide_eq_true (by first | (with_reducible assumption) | assumption)
         obtain ⟨d2, e0, d6, d7, d8⟩ := at_T63 a2.out a1 a8 a9
         obtain rfl : a3 = d2 := (by injection e0)
         replace a8 := eq_true a8
         replace a9 := eq_true a9
         go_wp2
         repeat (go_quiet (fail); try go_wp2)
         go_meet
         case rel => exact ⟨_, (true), (by first | rfl | (simp; done) | (simp [*]; done)), H', ⟨by have := g3.out; first | omega | exact Nat.le_refl _⟩, by repeat (first | exact Drawn0.refl _ | apply Drawn0.step)⟩
        ·rw [if_neg c7] at H
         have l1 : decide (((rd_T63 l0 a1).f1) < ((rd_T63 l0 a1).f0)) = false := decide_eq_false c7
         clear c7
         by_cases c8 : ((rd_T63 l0 a1).f1) > 1114111
         ·rw [if_pos c8] at H
          have l2 : decide (1114111 < ((rd_T63 l0 a1).f1)) = true := decide_eq_true c8
          clear c8
          have H' := Aside0.mk H
          clear H
          have a4 : 0 ≤ (a1 : Int) := of_decide_eq_true (by first | (with_reducible assumption) | assumption)
          have a5 : a1 < (l0.length : Int) := of_decide_eq_true (by first | (with_reducible assumption) | assumption)
          obtain ⟨a3, d0, b8, b9, c4⟩ := at_T63 a2.out a1 a4 a5
          cases d0
          replace a4 := eq_true a4
          replace a5 := eq_true a5
          have a6 : 0 ≤ (a1 : Int) := of_decide_eq_true (by first | (with_reducible assumption) | assumption)
          have a7 : a1 < (l0.length : Int) := of_decide_eq_true (by first | (with_reducible assumption) | assumption)
          obtain ⟨d1, d9, d3, d4, d5⟩ := at_T63 a2.out a1 a6 a7
          obtain rfl : a3 = d1 := (by injection d9)
          replace a6 := eq_true a6
          replace a7 := eq_true a7
          have a8 : 0 ≤ (a1 : Int) := of_decide_eq_true (by first | (with_reducible assumption) | assumption)
          have a9 : a1 < (l0.length : Int) := of_decide_eq_true (by first | (with_reducible assumption) | assumption)
          obtain ⟨d2, e0, d6, d7, d8⟩ := at_T63 a2.out a1 a8 a9
          obtain rfl : a3 = d2 := (by injection e0)
          replace a8 := eq_true a8
          replace a9 := eq_true a9
          have b3 : 0 ≤ (a1 : Int) := of_decide_eq_true (by first | (with_reducible assumption) | assumption)
          have b4 : a1 < (l0.length : Int) := of_decide_eq_true (by first | (with_reducible assumption) | assumption)
          obtain ⟨e8, g4, f3, f4, f5⟩ := at_T63 a2.out a1 b3 b4
          obtain rfl : a3 = e8 := (by injection g4)
          replace b3 := eq_true b3
          replace b4 := eq_true b4
          go_wp2
          repeat (go_quiet (fail); try go_wp2)
          go_meet
          case rel => exact ⟨_, (true), (by first | rfl | (simp; done) | (simp [*]; done)), H', ⟨by have := g3.out; first | omega | exact Nat.le_refl _⟩, by repeat (first | exact Drawn0.refl _ | apply Drawn0.step)⟩
         ·rw [if_neg c8] at H
          have l2 : decide (1114111 < ((rd_T63 l0 a1).f1)) = false := decide_eq_false c8
          clear c8
          by_cases c9 : a1 > 0
          ·rw [if_pos c9] at H
           have l3 : decide (0 < a1) = true := decide_eq_true c9
           clear c9
           obtain ⟨b5, g0⟩ : ∃ j_ : Int, (wrap64 (a1 - 1)) = j_ := ⟨_, rfl⟩
           replace H : (if 0 ≤ (b5) then (if (b5) < (l0.length : Int) then (stanzaref07_Letters.j1 k1 l0 a1 (decide (((rd_T63 l0 a1).f0) ≤ ((rd_T63 l0 (b5)).f1)))) else (none)) else (none)) = some r := by first | (rw [g0] at H; exact H) | (simp only [g0] at H ⊢; exact H)
           have hji10w : (IntKind.i64.wrap (a1 - 1)) = b5 := (i64_w _).trans g0
           by_cases h9 : 0 ≤ (b5)
           ·rw [if_pos h9] at H
            have l4 : decide (0 ≤ (b5)) = true := decide_eq_true h9
            clear h9
            by_cases i0 : (b5) < (l0.length : Int)
            ·rw [if_pos i0] at H
             have l5 : decide ((b5) < (l0.length : Int)) = true := decide_eq_true i0
             clear i0
             have H' := Aside0.mk H
             clear H
             have a4 : 0 ≤ (a1 : Int) := of_decide_eq_true (by first | (with_reducible assumption) | assumption)
             have a5 : a1 < (l0.length : Int) := of_decide_eq_true (by first | (with_reducible assumption) | assumption)
             obtain ⟨a3, d0, b8, b9, c4⟩ := at_T63 a2.out a1 a4 a5
             cases d0
             replace a4 := eq_true a4
             replace a5 := eq_true a5
             have a6 : 0 ≤ (a1 : Int) := of_decide_eq_true (by first | (with_reducible assumption) | assumption)
             have a7 : a1 < (l0.length : Int) := of_decide_eq_true (by first | (with_reducible assumption) | assumption)
             obtain ⟨d1, d9, d3, d4, d5⟩ := at_T63 a2.out a1 a6 a7
             obtain rfl : a3 = d1 := (by injection d9)
             replace a6 := eq_true a6
             replace a7 := eq_true a7
             have a8 : 0 ≤ (a1 : Int) := of_decide_eq_true (by first | (with_reducible assumption) | assumption)
             have a9 : a1 < (l0.length : Int) := of_decide_eq_true (by first | (with_reducible assumption) | assumption)
             obtain ⟨d2, e0, d6, d7, d8⟩ := at_T63 a2.out a1 a8 a9
             obtain rfl : a3 = d2 := (by injection e0)
             replace a8 := eq_true a8
             replace a9 := eq_true a9
             have b3 : 0 ≤ (a1 : Int) := of_decide_eq_true (by first | (with_reducible assumption) | assumption)
             have b4 : a1 < (l0.length : Int) := of_decide_eq_true (by first | (with_reducible assumption) | assumption)
             obtain ⟨e8, g4, f3, f4, f5⟩ := at_T63 a2.out a1 b3 b4
             obtain rfl : a3 = e8 := (by injection g4)
             replace b3 := eq_true b3
             replace b4 := eq_true b4
             have h2 : 0 ≤ (a1 : Int) := of_decide_eq_true (by first | (with_reducible assumption) | assumption)
             have h3 : a1 < (l0.length : Int) := of_decide_eq_true (by first | (with_reducible assumption) | assumption)
             obtain ⟨l6, m6, j0, j2, j3⟩ := at_T63 a2.out a1 h2 h3
             obtain rfl : a3 = l6 := (by injection m6)
             replace h2 := eq_true h2
             replace h3 := eq_true h3
             have h4 : 0 ≤ ((b5) : Int) := of_decide_eq_true (by first | (with_reducible assumption) | assumption)
             have h5 : (b5) < (l0.length : Int) := of_decide_eq_true (by first | (with_reducible assumption) | assumption)
             obtain ⟨l7, m7, j4, j5, j6⟩ := at_T63 a2.out (b5) h4 h5
             obtain rfl : a3 = l7 := (by injection m7)
             replace h4 := eq_true h4
             replace h5 := eq_true h5
             go_wp2
             repeat (go_quiet (fail); try go_wp2)
             go_meet
             case rel => exact ⟨_, (decide (((rd_T63 l0 a1).f0) ≤ ((rd_T63 l0 (b5)).f1))), (by first | rfl | (simp; done) | (simp only [← g0] <;> (first | rfl | simp)) | (simp [*]; done)), H', ⟨by have := g3.out; first | omega | exact Nat.le_refl _⟩, by repeat (first | exact Drawn0.refl _ | apply Drawn0.step)⟩
            ·rw [if_neg i0] at H
             exact absurd H (by simp)
           ·rw [if_neg h9] at H
            exact absurd H (by simp)
          ·rw [if_neg c9] at H
           have l3 : decide (0 < a1) = false := decide_eq_false c9
           clear c9
           have H' := Aside0.mk H
           clear H
           have a4 : 0 ≤ (a1 : Int) := of_decide_eq_true (by first | (with_reducible assumption) | assumption)
           have a5 : a1 < (l0.length : Int) := of_decide_eq_true (by first | (with_reducible assumption) | assumption)
           obtain ⟨a3, d0, b8, b9, c4⟩ := at_T63 a2.out a1 a4 a5
           cases d0
           replace a4 := eq_true a4
           replace a5 := eq_true a5
           have a6 : 0 ≤ (a1 : Int) := of_decide_eq_true (by first | (with_reducible assumption) | assumption)
           have a7 : a1 < (l0.length : Int) := of_decide_eq_true (by first | (with_reducible assumption) | assumption)
           obtain ⟨d1, d9, d3, d4, d5⟩ := at_T63 a2.out a1 a6 a7
           obtain rfl : a3 = d1 := (by injection d9)
           replace a6 := eq_true a6
           replace a7 := eq_true a7
           have a8 : 0 ≤ (a1 : Int) := of_decide_eq_true (by first | (with_reducible assumption) | assumption)
           have a9 : a1 < (l0.length : Int) := of_decide_eq_true (by first | (with_reducible assumption) | assumption)
           obtain ⟨d2, e0, d6, d7, d8⟩ := at_T63 a2.out a1 a8 a9
           obtain rfl : a3 = d2 := (by injection e0)
           replace a8 := eq_true a8
           replace a9 := eq_true a9
           have b3 : 0 ≤ (a1 : Int) := of_decide_eq_true (by first | (with_reducible assumption) | assumption)
           have b4 : a1 < (l0.length : Int) := of_decide_eq_true (by first | (with_reducible assumption) | assumption)
           obtain ⟨e8, g4, f3, f4, f5⟩ := at_T63 a2.out a1 b3 b4
           obtain rfl : a3 = e8 := (by injection g4)
           replace b3 := eq_true b3
           replace b4 := eq_true b4
           go_wp2
           repeat (go_quiet (fail); try go_wp2)
           go_meet
           case rel => exact ⟨_, (false), (by first | rfl | (simp; done) | (simp [*]; done)), H', ⟨by have := g3.out; first | omega | exact Nat.le_refl _⟩, by repeat (first | exact Drawn0.refl _ | apply Drawn0.step)⟩
      ·rw [if_neg c5] at H
       exact absurd H (by simp)
     case rest =>
      clear k8
      try clear c1
      try clear c2
      try clear i1
      try clear i2
      try clear p2
      try clear q2
      try clear n3
      try clear c3
      try clear k7
      try clear c5
      try clear i3
      try clear c6
      try clear k9
      try clear p6
      try clear c7
      try clear l1
      try clear c8
      try clear l2
      try clear c9
      try clear l3
      try clear h9
      try clear l4
      try clear i0
      try clear l5
      try clear b8
      try clear b9
      try clear c4
      try clear d3
      try clear d4
      try clear d5
      try clear d6
      try clear d7
      try clear d8
      try clear f3
      try clear f4
      try clear f5
      try clear j0
      try clear j2
      try clear j3
      try clear j4
      try clear j5
      try clear j6
      try clear p2
      try clear a4
      try clear a6
      try clear a8
      try clear b3
      try clear h2
      try clear h4
      try clear a5
      try clear a7
      try clear a9
      try clear b4
      try clear h3
      try clear h5
      obtain ⟨kq, f9, rfl, HA, m4, ⟨n4, rfl⟩⟩ := hcut
      cases kq with
      | zero => exact absurd HA.out (by simp [stanzaref07_Letters.j1])
      | succ m5 =>
       have H := HA.out
       clear HA
       simp only [stanzaref07_Letters.j1] at H
       by_cases i7 : f9 = true
       ·subst i7
        have H1 : (some false) = some r := by rw [if_pos rfl] at H; exact H
        clear H
        have H := H1
        clear H1
        obtain rfl := Option.some.inj H
        go_wp2
        repeat (go_quiet (fail); try go_wp2)
        go_ret
        exact ⟨by first | rfl | (simp; done) | (simp [*]; done), by repeat (first | exact Drawn0.refl _ | apply Drawn0.step)⟩
       ·replace i7 := Bool.eq_false_iff.mpr i7
        subst i7
        have H1 : (if 0 ≤ a1 then (if a1 < (l0.length : Int) then (if ((rd_T63 l0 a1).f2) < 0 then (some false) else (if ((rd_T63 l0 a1).f2) > 1114111 then (some false) else (if (wrap64 ((wrap64 (((rd_T63 l0 a1).f2) + (wrap64 ((rd_T63 l0 a1).f1)))) - (wrap64 ((rd_T63 l0 a1).f0)))) > 1114111 then (some false) else (stanzaref07_Letters.l0 m5 l0 (wrap64 (a1 + 1)))))) else (none)) else (none)) = some r := by rw [if_neg (show ¬ (false = true) by decide)] at H; exact H
        clear H
        have H := H1
        clear H1
        by_cases i8 : 0 ≤ a1
        ·rw [if_pos i8] at H
         have n0 : decide (0 ≤ a1) = true := decide_eq_true i8
         clear i8
         by_cases i9 : a1 < (l0.length : Int)
         ·rw [if_pos i9] at H
          have n1 : decide (a1 < (l0.length : Int)) = true := decide_eq_true i9
          clear i9
          by_cases g6 : ((rd_T63 l0 a1).f2) < 0
          ·rw [if_pos g6] at H
           have l8 : decide (((rd_T63 l0 a1).f2) < 0) = true := decide_eq_true g6
           clear g6
           obtain rfl := Option.some.inj H
           have b1 : 0 ≤ (a1 : Int) := of_decide_eq_true (by first | (with_reducible assumption) | assumption)
           have b2 : a1 < (l0.length : Int) := of_decide_eq_true (by first | (with_reducible assumption) | assumption)
           obtain ⟨b0, e1, f6, f7, f8⟩ := at_T63 a2.out a1 b1 b2
           cases e1
           replace b1 := eq_true b1
           replace b2 := eq_true b2
           go_wp2
           repeat (go_quiet (fail); try go_wp2)
           go_ret
           exact ⟨by first | rfl | (simp; done) | (simp [*]; done), by repeat (first | exact Drawn0.refl _ | apply Drawn0.step)⟩
          ·rw [if_neg g6] at H
           have l8 : decide (((rd_T63 l0 a1).f2) < 0) = false := decide_eq_false g6
           clear g6
           by_cases g7 : ((rd_T63 l0 a1).f2) > 1114111
           ·rw [if_pos g7] at H
            have l9 : decide (1114111 < ((rd_T63 l0 a1).f2)) = true := decide_eq_true g7
            clear g7
            obtain rfl := Option.some.inj H
            have b1 : 0 ≤ (a1 : Int) := of_decide_eq_true (by first | (with_reducible assumption) | assumption)
            have b2 : a1 < (l0.length : Int) := of_decide_eq_true (by first | (with_reducible assumption) | assumption)
            obtain ⟨b0, e1, f6, f7, f8⟩ := at_T63 a2.out a1 b1 b2
            cases e1
            replace b1 := eq_true b1
            replace b2 := eq_true b2
            have b6 : 0 ≤ (a1 : Int) := of_decide_eq_true (by first | (with_reducible assumption) | assumption)
            have b7 : a1 < (l0.length : Int) := of_decide_eq_true (by first | (with_reducible assumption) | assumption)
            obtain ⟨e9, g5, g8, g9, h0⟩ := at_T63 a2.out a1 b6 b7
            obtain rfl : b0 = e9 := (by injection g5)
            replace b6 := eq_true b6
            replace b7 := eq_true b7
            go_wp2
            repeat (go_quiet (fail); try go_wp2)
            go_ret
            exact ⟨by first | rfl | (simp; done) | (simp [*]; done), by repeat (first | exact Drawn0.refl _ | apply Drawn0.step)⟩
           ·rw [if_neg g7] at H
            have l9 : decide (1114111 < ((rd_T63 l0 a1).f2)) = false := decide_eq_false g7
            clear g7
            by_cases h1 : (wrap64 ((wrap64 (((rd_T63 l0 a1).f2) + (wrap64 ((rd_T63 l0 a1).f1)))) - (wrap64 ((rd_T63 l0 a1).f0)))) > 1114111
            ·rw [if_pos h1] at H
             have m0 : decide (1114111 < (wrap64 ((wrap64 (((rd_T63 l0 a1).f2) + (wrap64 ((rd_T63 l0 a1).f1)))) - (wrap64 ((rd_T63 l0 a1).f0))))) = true := decide_eq_true h1
             clear h1
             obtain rfl := Option.some.inj H
             have b1 : 0 ≤ (a1 : Int) := of_decide_eq_true (by first | (with_reducible assumption) | assumption)
             have b2 : a1 < (l0.length : Int) := of_decide_eq_true (by first | (with_reducible assumption) | assumption)
             obtain ⟨b0, e1, f6, f7, f8⟩ := at_T63 a2.out a1 b1 b2
             cases e1
             replace b1 := eq_true b1
             replace b2 := eq_true b2
             have b6 : 0 ≤ (a1 : Int) := of_decide_eq_true (by first | (with_reducible assumption) | assumption)
             have b7 : a1 < (l0.length : Int) := of_decide_eq_true (by first | (with_reducible assumption) | assumption)
             obtain ⟨e9, g5, g8, g9, h0⟩ := at_T63 a2.out a1 b6 b7
             obtain rfl : b0 = e9 := (by injection g5)
             replace b6 := eq_true b6
             replace b7 := eq_true b7
             have e2 : 0 ≤ (a1 : Int) := of_decide_eq_true (by first | (with_reducible assumption) | assumption)
             have e3 : a1 < (l0.length : Int) := of_decide_eq_true (by first | (with_reducible assumption) | assumption)
             obtain ⟨h6, i4, j7, j8, j9⟩ := at_T63 a2.out a1 e2 e3
             obtain rfl : b0 = h6 := (by injection i4)
             replace e2 := eq_true e2
             replace e3 := eq_true e3
             have e4 : 0 ≤ (a1 : Int) := of_decide_eq_true (by first | (with_reducible assumption) | assumption)
             have e5 : a1 < (l0.length : Int) := of_decide_eq_true (by first | (with_reducible assumption) | assumption)
             obtain ⟨h7, i5, k0, k2, k3⟩ := at_T63 a2.out a1 e4 e5
             obtain rfl : b0 = h7 := (by injection i5)
             replace e4 := eq_true e4
             replace e5 := eq_true e5
             have e6 : 0 ≤ (a1 : Int) := of_decide_eq_true (by first | (with_reducible assumption) | assumption)
             have e7 : a1 < (l0.length : Int) := of_decide_eq_true (by first | (with_reducible assumption) | assumption)
             obtain ⟨h8, i6, k4, k5, k6⟩ := at_T63 a2.out a1 e6 e7
             obtain rfl : b0 = h8 := (by injection i6)
             replace e6 := eq_true e6
             replace e7 := eq_true e7
             go_wp2
             repeat (go_quiet (fail); try go_wp2)
             go_ret
             exact ⟨by first | rfl | (simp; done) | (simp [*]; done), by repeat (first | exact Drawn0.refl _ | apply Drawn0.step)⟩
            ·rw [if_neg h1] at H
             have m0 : decide (1114111 < (wrap64 ((wrap64 (((rd_T63 l0 a1).f2) + (wrap64 ((rd_T63 l0 a1).f1)))) - (wrap64 ((rd_T63 l0 a1).f0))))) = false := decide_eq_false h1
             clear h1
             have H' := Aside0.mk H
             clear H
             have b1 : 0 ≤ (a1 : Int) := of_decide_eq_true (by first | (with_reducible assumption) | assumption)
             have b2 : a1 < (l0.length : Int) := of_decide_eq_true (by first | (with_reducible assumption) | assumption)
             obtain ⟨b0, e1, f6, f7, f8⟩ := at_T63 a2.out a1 b1 b2
             cases e1
             replace b1 := eq_true b1
             replace b2 := eq_true b2
             have b6 : 0 ≤ (a1 : Int) := of_decide_eq_true (by first | (with_reducible assumption) | assumption)
             have b7 : a1 < (l0.length : Int) := of_decide_eq_true (by first | (with_reducible assumption) | assumption)
             obtain ⟨e9, g5, g8, g9, h0⟩ := at_T63 a2.out a1 b6 b7
             obtain rfl : b0 = e9 := (by injection g5)
             replace b6 := eq_true b6
             replace b7 := eq_true b7
             have e2 : 0 ≤ (a1 : Int) := of_decide_eq_true (by first | (with_reducible assumption) | assumption)
             have e3 : a1 < (l0.length : Int) := of_decide_eq_true (by first | (with_reducible assumption) | assumption)
             obtain ⟨h6, i4, j7, j8, j9⟩ := at_T63 a2.out a1 e2 e3
             obtain rfl : b0 = h6 := (by injection i4)
             replace e2 := eq_true e2
             replace e3 := eq_true e3
             have e4 : 0 ≤ (a1 : Int) := of_decide_eq_true (by first | (with_reducible assumption) | assumption)
             have e5 : a1 < (l0.length : Int) := of_decide_eq_true (by first | (with_reducible assumption) | assumption)
             obtain ⟨h7, i5, k0, k2, k3⟩ := at_T63 a2.out a1 e4 e5
             obtain rfl : b0 = h7 := (by injection i5)
             replace e4 := eq_true e4
             replace e5 := eq_true e5
             have e6 : 0 ≤ (a1 : Int) := of_decide_eq_true (by first | (with_reducible assumption) | assumption)
             have e7 : a1 < (l0.length : Int) := of_decide_eq_true (by first | (with_reducible assumption) | assumption)
             obtain ⟨h8, i6, k4, k5, k6⟩ := at_T63 a2.out a1 e6 e7
             obtain rfl : b0 = h8 := (by injection i6)
             replace e6 := eq_true e6
             replace e7 := eq_true e7
             go_wp2
             repeat (go_quiet (fail); try go_wp2)
             go_roundg m5
             case measure => have := g3.out; have := m4.out; omega
             case rel => exact ⟨(wrap64 (a1 + 1)), (by first | rfl | (simp; done) | (simp [*]; done)), H', ⟨by have := g3.out; have := m4.out; omega⟩, by repeat (first | exact Drawn0.refl _ | apply Drawn0.step)⟩
         ·rw [if_neg i9] at H
          exact absurd H (by simp)
        ·rw [if_neg i8] at H
         exact absurd H (by simp)
    ·rw [if_neg c3] at H
     have k7 : decide (a1 < (l0.length : Int)) = false := decide_eq_false c3
     clear c3
     obtain rfl := Option.some.inj H
     go_wp2
     repeat (go_quiet (fail); try go_wp2)
     go_ret
     exact ⟨by first | rfl | (simp; done) | (simp [*]; done), by repeat (first | exact Drawn0.refl _ | apply Drawn0.step)⟩
end Go.Proofs.Ytoefjhdcipgacaa.PA
end
section
namespace Go.Proofs.Ytoefjhdcipgacaa.Hy
open Go.RowKit Go.Proofs.YtoefjhdcipgacaaW.PrintWords Go.Proofs.YtoefjhdcipgacaaW.PrintLast Go.Proofs.YtoefjhdcipgacaaW.PrintMore
open Go.Proofs.Ytoefjhdcipgacaa.PA
theorem copy_at {W : World} {base g cap start m c : Nat} {ok : Nat → Prop} {A : Option Addr} (xs ys : List Bool) (HO : Kd.R Kd.bool 4 W base ok (.slice (some ⟨g, 0, none⟩) xs.length cap) xs) (HR : Kd.C Kd.bool W A m ys) (hm : start + m ≤ xs.length) (ty : TypeId) :
  ∃ W', (Builtin.copy_ #[58, 58] ty #[.slice (some ⟨g, start, none⟩) (xs.length - start) (cap - start), .slice A m c]).run Try.prog W = .ok (goInt (m : Int)) W' ∧ Kd.R Kd.bool 4 W' base ok (.slice (some ⟨g, 0, none⟩) xs.length cap) (xs.take start ++ ys ++ xs.drop (start + m)) ∧ W.grownBy W' (some g) := by
 have hu : Try.prog.underlying 58 = some (.slice 4) := Try.underlying58
 have hinfo : (Try.prog.info? 4).map (·.size) = some 1 := by kernel_rfl
 have hR := Kd.reads_of_C (enc := Value.bool) (d := false) (h1 := fun _ => rfl) HR
 have hml : ys.length = m := hR.1
 have hown := Kd.own_of_R HO
 rcases Nat.eq_zero_or_pos m with h0 | hp
 ·subst h0
  have hy : ys = [] := List.eq_nil_of_length_eq_zero hml
  subst hy
  refine ⟨W, run_copy_none W 58 58 ty 4 _ _ _ _ _ _ hu hinfo (by simp), ?_, World.grownBy.refl W _⟩
  rw [List.append_nil, Nat.add_zero, List.take_append_drop]
  exact HO
 ·obtain ⟨ad, hA, hc⟩ := hR.2.2 (by omega)
  rcases hown.2 with ⟨_, hx0⟩ | ⟨g', cap', cur, hv, hb, hh, hnc, hcm, hcs, htake⟩
  ·omega
  injection hv with e1 _ e2
  injection e1 with e1
  injection e1 with e1
  subst e1
  subst e2
  have hcs1 : cur.size = cap := by omega
  have hel : (encs Value.bool ys).length = m := by rw [encs_length, hml]
  have hsrc : ∀ j u, (encs Value.bool ys)[j]? = some u → W.cell? (ad.add j) = some u := by
   intro j u hu
   have hj : j < ys.length := by
    rcases Nat.lt_or_ge j ys.length with h | h
    ·exact h
    ·rw [List.getElem?_eq_none (by rw [encs_length]; exact h)] at hu
     cases hu
   rw [encs_get (d := false) _ j hj] at hu
   rw [hc j (by omega), ← hu]
  have hr := run_copy_cells (P := Try.prog) W 58 58 ty 4 g start (xs.length - start) (cap - start) ad m c (encs Value.bool ys) hu hinfo (by rw [hel]; exact (Nat.min_eq_left (by omega)).symm) hsrc
   (fun j hj => by rw [cell_of_row W g _ cur 4 (0, 0) hh]; simp; omega) (fun j _ => blk_frozen hh _) (by intro u hu; simp only [encs, List.mem_map] at hu; obtain ⟨q, _, rfl⟩ := hu; rfl)
  obtain ⟨cur', h3, h4, h5⟩ := setCells_row (encs Value.bool ys) start W cur hh (by rw [hel]; omega)
  obtain ⟨s1, s2, s3, s4⟩ := setCells_same g (encs Value.bool ys) start W
  refine ⟨_, by rw [hA, hr, hel], Kd.R_of_own ?_ HO.1, ⟨s1, s2, s3, by rw [s4]; exact Nat.le_refl _, fun k _ hk => setCells_far _ _ k (fun he => hk (by rw [he]))⟩⟩
  have hln : (xs.take start ++ ys ++ xs.drop (start + m)).length = xs.length := by
   simp only [List.length_append, List.length_take, List.length_drop]
   omega
  rw [hln]
  refine ⟨by rw [encs_length, hln, Nat.mul_one], .inr ⟨g, cap, cur', rfl, hb, h3, hnc, hcm, by rw [h4, hcs], ?_⟩⟩
  have htk : cur.toList.take xs.length = encs Value.bool xs := by rw [← htake, Nat.mul_one]
  rw [h5, hel, encs_append, encs_append, Nat.mul_one]
  have d1 : encs Value.bool (xs.take start) = cur.toList.take start := by
   rw [show encs Value.bool (xs.take start) = (encs Value.bool xs).take start by simp [encs, List.map_take], ← htk, List.take_take, Nat.min_eq_left (by omega)]
  have d2 : encs Value.bool (xs.drop (start + m)) = (cur.toList.drop (start + m)).take (xs.length - (start + m)) := by
   rw [show encs Value.bool (xs.drop (start + m)) = (encs Value.bool xs).drop (start + m) by simp [encs, List.map_drop], ← htk, List.drop_take]
  have hcl : cur.toList.length = cap := by rw [Array.length_toList]; exact hcs1
  rw [d1, d2, List.take_append, List.length_append, List.length_take, hel, hcl, List.take_of_length_le (by rw [List.length_append, List.length_take, hel]; omega)]
  rw [Nat.min_eq_left (show start ≤ cap by omega)]
end Go.Proofs.Ytoefjhdcipgacaa.Hy
end
section
namespace Go.Proofs.Ytoefjhdcipgacaa.PA
open Go.RowKit Go.Proofs.YtoefjhdcipgacaaW.PrintWords Go.Proofs.YtoefjhdcipgacaaW.PrintLast Go.Proofs.YtoefjhdcipgacaaW.PrintMore
attribute [local go_sem] max2_int min2_int max_two min_two max_three min_three max_four min_four   -- for this text's walks alone
set_option linter.unusedVariables false
set_option linter.unusedSimpArgs false
def stanzaref07_SameBools.l0 : Nat → List Bool → List Bool → Int → Option (Bool)
 | 0, _, _, _ => none
 | k + 1, x0, x1, x5 => if x5 < (x0.length : Int) then (if 0 ≤ x5 then (if x5 < (x1.length : Int) then (if ((rdOf false x0 x5) != (rdOf false x1 x5)) = true then (some false) else (stanzaref07_SameBools.l0 k x0 x1 (wrap64 (x5 + 1)))) else (none)) else (none)) else (some true)
def stanzaref07_SameBools.f (k : Nat) (l0 : List Bool) (l1 : List Bool) : Option (Bool) := if (l0.length : Int) = (l1.length : Int) then (stanzaref07_SameBools.l0 k l0 l1 0) else (some false)
set_option maxHeartbeats 8000000 in
set_option maxRecDepth 100000 in
theorem stanzaref07_SameBools.calls (k : Nat) (A0 : Option Addr) (c0 : Nat) (l0 : List Bool) (A1 : Option Addr) (c1 : Nat) (l1 : List Bool) (r : Bool) (w : World) (b7 : Kd.C Kd.bool w A0 l0.length l0) (b8 : l0.length ≤ c0) (b9 : Kd.C Kd.bool w A1 l1.length l1) (c8 : l1.length ≤ c1) (h : stanzaref07_SameBools.f k l0 l1 = some r) :
  Calls Try.prog 29 #[.slice A0 l0.length c0, .slice A1 l1.length c1] w fun e w' => e = .returned (.bool r) ∧ Drawn0 w w' := by
 have c9 := Aside0.mk b7
 have d9 := Aside0.mk b8
 clear b7 b8
 have d0 := Aside0.mk b9
 have e0 := Aside0.mk c8
 clear b9 c8
 have H : (if (l0.length : Int) = (l1.length : Int) then (stanzaref07_SameBools.l0 k l0 l1 0) else (some false)) = some r := h
 clear h
 by_cases c3 : (l0.length : Int) = (l1.length : Int)
 ·rw [if_pos c3] at H
  have b2 : ((l0.length : Int) == (l1.length : Int)) = true := beq_iff_eq.mpr c3
  have b3 : ((l0.length : Int) != (l1.length : Int)) = false := bne_eq_false_iff_eq.mpr c3
  have b4 : (l0.length == l1.length) = true := by first | simpa using c3 | (simp at c3 ⊢; omega)
  clear c3
  have H' := Aside0.mk H
  clear H
  go_enter Try.func29, Try.ntmps29
  go_wp2
  repeat (go_quiet (fail); try go_wp2)
  go_loopg [5] k (fun kq v5 w' => ∃ (a2 : Int), v5 = .int .i64 a2 ∧ Aside0 (stanzaref07_SameBools.l0 kq l0 l1 a2 = some r) ∧ Aside0 (kq ≤ k) ∧ Drawn0 w w')
  case atStart => exact ⟨(0), (by first | rfl | (simp; done) | (simp [*]; done)), H', ⟨Nat.le_refl _⟩, by repeat (first | exact Drawn0.refl _ | apply Drawn0.step)⟩
  case round =>
   clear H'
   try clear c1
   try clear c2
   try clear p2
   try clear c3
   try clear b2
   try clear b3
   try clear b4
   obtain ⟨a2, rfl, HA, d1, ⟨m1, rfl⟩⟩ := hrel
   cases gk with
   | zero => exact absurd HA.out (by simp [stanzaref07_SameBools.l0])
   | succ k1 =>
    have H := HA.out
    clear HA
    simp only [stanzaref07_SameBools.l0] at H
    by_cases c4 : a2 < (l0.length : Int)
    ·rw [if_pos c4] at H
     have d2 : decide (a2 < (l0.length : Int)) = true := decide_eq_true c4
     clear c4
     by_cases c5 : 0 ≤ a2
     ·rw [if_pos c5] at H
      have d6 : decide (0 ≤ a2) = true := decide_eq_true c5
      clear c5
      by_cases c6 : a2 < (l1.length : Int)
      ·rw [if_pos c6] at H
       have d7 : decide (a2 < (l1.length : Int)) = true := decide_eq_true c6
       clear c6
       by_cases c7 : ((rdOf false l0 a2) != (rdOf false l1 a2)) = true
       ·rw [if_pos c7] at H
        have d3 : ((rdOf false l0 a2) != (rdOf false l1 a2)) = true := c7
        (try (have d4 : decide ((rdOf false l0 a2) = (rdOf false l1 a2)) = false := by simpa using c7))
        (try (have d5 : ((rdOf false l0 a2) == (rdOf false l1 a2)) = false := by simpa using c7))
        (try (have d8 : ¬ ((rdOf false l0 a2) = (rdOf false l1 a2)) := by simpa using c7))
        clear c7
        obtain rfl := Option.some.inj H
        have a3 : 0 ≤ (a2 : Int) := of_decide_eq_true (by first | (with_reducible assumption) | assumption)
        have a4 : a2 < (l0.length : Int) := of_decide_eq_true (by first | (with_reducible assumption) | assumption)
        obtain ⟨b5, a8, b0⟩ := Kd.at_bool c9.out a2 a3 a4
        cases a8
        replace a3 := eq_true a3
        replace a4 := eq_true a4
        have a5 : 0 ≤ (a2 : Int) := of_decide_eq_true (by first | (with_reducible assumption) | assumption)
        have a6 : a2 < (l1.length : Int) := of_decide_eq_true (by first | (with_reducible assumption) | assumption)
        obtain ⟨b6, a9, b1⟩ := Kd.at_bool d0.out a2 a5 a6
        cases a9
        replace a5 := eq_true a5
        replace a6 := eq_true a6
        go_wp2
        repeat (go_quiet (fail); try go_wp2)
        go_ret
        exact ⟨by first | rfl | (simp; done) | (simp [*]; done), by repeat (first | exact Drawn0.refl _ | apply Drawn0.step)⟩
       ·rw [if_neg c7] at H
        have d3 : ((rdOf false l0 a2) != (rdOf false l1 a2)) = false := by simpa using c7
        (try (have d4 : decide ((rdOf false l0 a2) = (rdOf false l1 a2)) = true := by simpa using c7))
        (try (have d5 : ((rdOf false l0 a2) == (rdOf false l1 a2)) = true := by simpa using c7))
        clear c7
        have H' := Aside0.mk H
        clear H
        have a3 : 0 ≤ (a2 : Int) := of_decide_eq_true (by first | (with_reducible assumption) | assumption)
        have a4 : a2 < (l0.length : Int) := of_decide_eq_true (by first | (with_reducible assumption) | assumption)
        obtain ⟨b5, a8, b0⟩ := Kd.at_bool c9.out a2 a3 a4
        cases a8
        replace a3 := eq_true a3
        replace a4 := eq_true a4
        have a5 : 0 ≤ (a2 : Int) := of_decide_eq_true (by first | (with_reducible assumption) | assumption)
        have a6 : a2 < (l1.length : Int) := of_decide_eq_true (by first | (with_reducible assumption) | assumption)
        obtain ⟨b6, a9, b1⟩ := Kd.at_bool d0.out a2 a5 a6
        cases a9
        replace a5 := eq_true a5
        replace a6 := eq_true a6
        go_wp2
        repeat (go_quiet (fail); try go_wp2)
        go_roundg k1
        case measure => have := d1.out; omega
        case rel => exact ⟨(wrap64 (a2 + 1)), (by first | rfl | (simp; done) | (simp [*]; done)), H', ⟨by have := d1.out; omega⟩, by repeat (first | exact Drawn0.refl _ | apply Drawn0.step)⟩
      ·rw [if_neg c6] at H
       exact absurd H (by simp)
     ·rw [if_neg c5] at H
      exact absurd H (by simp)
    ·rw [if_neg c4] at H
     have d2 : decide (a2 < (l0.length : Int)) = false := decide_eq_false c4
     clear c4
     obtain rfl := Option.some.inj H
     go_wp2
     repeat (go_quiet (fail); try go_wp2)
     go_ret
     exact ⟨by first | rfl | (simp; done) | (simp [*]; done), by repeat (first | exact Drawn0.refl _ | apply Drawn0.step)⟩
 ·rw [if_neg c3] at H
  have b2 : ((l0.length : Int) == (l1.length : Int)) = false := beq_eq_false_iff_ne.mpr c3
  have b3 : ((l0.length : Int) != (l1.length : Int)) = true := bne_iff_ne.mpr c3
  have b4 : (l0.length == l1.length) = false := by first | simpa using c3 | (simp at c3 ⊢; omega)
  obtain rfl := Option.some.inj H
  go_enter Try.func29, Try.ntmps29
  go_wp2
  repeat (go_quiet (fail); try go_wp2)
  go_ret
  exact ⟨by first | rfl | (simp; done) | (simp [*]; done), by repeat (first | exact Drawn0.refl _ | apply Drawn0.step)⟩
end Go.Proofs.Ytoefjhdcipgacaa.PA
end
