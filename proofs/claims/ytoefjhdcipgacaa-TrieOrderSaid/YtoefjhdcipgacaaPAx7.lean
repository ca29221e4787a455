-- PRINTED by print.py (a twelfth state) out of the translation. Not trusted: Lean checks it.
import Derived.Test.YtoefjhdcipgacaaPAx0
import Derived.Test.YtoefjhdcipgacaaPAx4
namespace Go.Proofs.Ytoefjhdcipgacaa.PA
open Go.RowKit Go.Proofs.YtoefjhdcipgacaaW.PrintWords Go.Proofs.YtoefjhdcipgacaaW.PrintLast Go.Proofs.YtoefjhdcipgacaaW.PrintMore
attribute [local go_sem] max2_int min2_int max_two min_two max_three min_three max_four min_four   -- for this text's walks alone
set_option linter.unusedVariables false
set_option linter.unusedSimpArgs false

/-! ### stanzaref07_Beginnings: function 23 -/
mutual
def stanzaref07_Beginnings.l0 : Nat → List (S39) → List (List Int) → Int → Option (Int)
  | 0, _, _, _ => none
  | k + 1, x0, x3, x4 => if x4 < (x0.length : Int) then (stanzaref07_Beginnings.l1 k x0 x3 x4 1) else (some (x3.length : Int))
def stanzaref07_Beginnings.l1 : Nat → List (S39) → List (List Int) → Int → Int → Option (Int)
  | 0, _, _, _, _ => none
  | k + 1, x0, x3, x4, x5 => if 0 ≤ x4 then (if x4 < (x0.length : Int) then (if x5 ≤ (((rd_T39 x0 x4).f0).length : Int) then (stanzaref07_Beginnings.l2 k x0 x3 x4 x5 false 0) else (stanzaref07_Beginnings.l0 k x0 x3 (wrap64 (x4 + 1)))) else (none)) else (none)
def stanzaref07_Beginnings.l2 : Nat → List (S39) → List (List Int) → Int → Int → Bool → Int → Option (Int)
  | 0, _, _, _, _, _, _ => none
  | k + 1, x0, x3, x4, x5, x6, x7 => if x7 < (x3.length : Int) then (if x6 = true then (stanzaref07_Beginnings.l2 k x0 x3 x4 x5 true (wrap64 (x7 + 1))) else (if 0 ≤ x7 then (if 0 ≤ x4 then (if x4 < (x0.length : Int) then (if 0 ≤ x5 then (if x5 ≤ (((rd_T39 x0 x4).f0).length : Int) then ((stanzaref07_Same.f k (rd_L1 x3 x7) (((rd_T39 x0 x4).f0).take (x5 : Int).toNat)).bind fun t194 => (stanzaref07_Beginnings.l2 k x0 x3 x4 x5 t194 (wrap64 (x7 + 1)))) else (none)) else (none)) else (none)) else (none)) else (none))) else (if x6 = true then (stanzaref07_Beginnings.l1 k x0 x3 x4 (wrap64 (x5 + 1))) else (if 0 ≤ x4 then (if x4 < (x0.length : Int) then (if 0 ≤ x5 then (if x5 ≤ (((rd_T39 x0 x4).f0).length : Int) then (if x3.length < 5864062014805 then (stanzaref07_Beginnings.l1 k x0 (x3 ++ [(((rd_T39 x0 x4).f0).take (x5 : Int).toNat)]) x4 (wrap64 (x5 + 1))) else (none)) else (none)) else (none)) else (none)) else (none)))
end
def stanzaref07_Beginnings.f (k : Nat) (l0 : List (S39)) : Option (Int) := stanzaref07_Beginnings.l0 k l0 (([[]] : List (List Int))) 0
theorem stanzaref07_Beginnings.mono_l : ∀ k, (∀ y0 y1 y2, LeO (stanzaref07_Beginnings.l0 k y0 y1 y2) (stanzaref07_Beginnings.l0 (k + 1) y0 y1 y2)) ∧ (∀ y0 y1 y2 y3, LeO (stanzaref07_Beginnings.l1 k y0 y1 y2 y3) (stanzaref07_Beginnings.l1 (k + 1) y0 y1 y2 y3)) ∧ (∀ y0 y1 y2 y3 y4 y5, LeO (stanzaref07_Beginnings.l2 k y0 y1 y2 y3 y4 y5) (stanzaref07_Beginnings.l2 (k + 1) y0 y1 y2 y3 y4 y5))
  | 0 => ⟨fun _ _ _ r h => by simp [stanzaref07_Beginnings.l0] at h, fun _ _ _ _ r h => by simp [stanzaref07_Beginnings.l1] at h, fun _ _ _ _ _ _ r h => by simp [stanzaref07_Beginnings.l2] at h⟩
  | k + 1 => by
    obtain ⟨ih0, ih1, ih2⟩ := stanzaref07_Beginnings.mono_l k
    refine ⟨?_, ?_, ?_⟩
    · intro y0 y1 y2
      unfold stanzaref07_Beginnings.l0
      repeat' first
      | (with_reducible exact ih0 _ _ _)
      | (with_reducible exact ih1 _ _ _ _)
      | (with_reducible exact ih2 _ _ _ _ _ _)
      | (with_reducible exact stanzaref07_Same.mono _ _ _)
      | (with_reducible exact LeO.refl _)
      | (with_reducible exact LeO.none _)
      | (with_reducible refine LeO.ite ?_ ?_)
      | (with_reducible refine LeO.bind ?_ (fun _ => ?_))
      | exact ih0 _ _ _
      | exact ih1 _ _ _ _
      | exact ih2 _ _ _ _ _ _
      | exact stanzaref07_Same.mono _ _ _
      | exact LeO.none _
      | refine LeO.ite ?_ ?_
      | refine LeO.bind ?_ (fun _ => ?_)
    · intro y0 y1 y2 y3
      unfold stanzaref07_Beginnings.l1
      repeat' first
      | (with_reducible exact ih0 _ _ _)
      | (with_reducible exact ih1 _ _ _ _)
      | (with_reducible exact ih2 _ _ _ _ _ _)
      | (with_reducible exact stanzaref07_Same.mono _ _ _)
      | (with_reducible exact LeO.refl _)
      | (with_reducible exact LeO.none _)
      | (with_reducible refine LeO.ite ?_ ?_)
      | (with_reducible refine LeO.bind ?_ (fun _ => ?_))
      | exact ih0 _ _ _
      | exact ih1 _ _ _ _
      | exact ih2 _ _ _ _ _ _
      | exact stanzaref07_Same.mono _ _ _
      | exact LeO.none _
      | refine LeO.ite ?_ ?_
      | refine LeO.bind ?_ (fun _ => ?_)
    · intro y0 y1 y2 y3 y4 y5
      unfold stanzaref07_Beginnings.l2
      repeat' first
      | (with_reducible exact ih0 _ _ _)
      | (with_reducible exact ih1 _ _ _ _)
      | (with_reducible exact ih2 _ _ _ _ _ _)
      | (with_reducible exact stanzaref07_Same.mono _ _ _)
      | (with_reducible exact LeO.refl _)
      | (with_reducible exact LeO.none _)
      | (with_reducible refine LeO.ite ?_ ?_)
      | (with_reducible refine LeO.bind ?_ (fun _ => ?_))
      | exact ih0 _ _ _
      | exact ih1 _ _ _ _
      | exact ih2 _ _ _ _ _ _
      | exact stanzaref07_Same.mono _ _ _
      | exact LeO.none _
      | refine LeO.ite ?_ ?_
      | refine LeO.bind ?_ (fun _ => ?_)
theorem stanzaref07_Beginnings.mono : ∀ a0 k, LeO (stanzaref07_Beginnings.f k a0) (stanzaref07_Beginnings.f (k + 1) a0) := by
  intro a0 k
  obtain ⟨ih0, ih1, ih2⟩ := stanzaref07_Beginnings.mono_l k
  unfold stanzaref07_Beginnings.f
  repeat' first
      | (with_reducible exact ih0 _ _ _)
      | (with_reducible exact ih1 _ _ _ _)
      | (with_reducible exact ih2 _ _ _ _ _ _)
      | (with_reducible exact stanzaref07_Same.mono _ _ _)
      | (with_reducible exact LeO.refl _)
      | (with_reducible exact LeO.none _)
      | (with_reducible refine LeO.ite ?_ ?_)
      | (with_reducible refine LeO.bind ?_ (fun _ => ?_))
      | exact ih0 _ _ _
      | exact ih1 _ _ _ _
      | exact ih2 _ _ _ _ _ _
      | exact stanzaref07_Same.mono _ _ _
      | exact LeO.none _
      | refine LeO.ite ?_ ?_
      | refine LeO.bind ?_ (fun _ => ?_)
set_option maxHeartbeats 8000000 in
set_option maxRecDepth 100000 in
theorem stanzaref07_Beginnings.calls (k : Nat) (P0_ : Nat → Prop) (A0 : Option Addr) (c0 : Nat) (l0 : List (S39)) (r : Int) (w : World) (hs0 : Kd.V k39 39 w w.heap.size (fun k_ => P0_ k_) (.slice A0 l0.length c0) l0) (h : stanzaref07_Beginnings.f k l0 = some r) :
    Calls Try.prog 23 #[.slice A0 l0.length c0] w fun e w' => e = .returned (.int .i64 r) ∧ Below w.heap.size w w' := by
  have HO0 := Aside0.mk (show Kd.V k39 39 w w.heap.size (fun k_ => (P0_ k_ ∨ w.heap.size ≤ k_)) (.slice A0 l0.length c0) l0 from Kd.V_mono hs0 (fun k_ hk => .inl hk))
  have HB := Aside0.mk (Below.refl w.heap.size w)
  have H : (stanzaref07_Beginnings.l0 k l0 (([[]] : List (List Int))) 0) = some r := h
  clear h
  obtain ⟨y183, hy183⟩ : ∃ y_ : List (List Int), y_ = (([[]] : List (List Int))) := ⟨_, rfl⟩
  replace H : (stanzaref07_Beginnings.l0 k l0 y183 0) = some r := by first | (rw [hy183]; with_reducible exact H) | (have H2_ := (Option.bind_some _ _).symm.trans H; rw [hy183]; with_reducible exact H2_) | (have H2_ := (Option.bind_some _ _).symm.trans H; with_reducible exact H2_) | with_reducible exact H | (rw [hy183]; exact H) | exact H
  have Ny183 := Aside0.mk hy183
  clear hy183
  have H' := Aside0.mk H
  clear H
  go_enter Try.func23, Try.ntmps23
  go_wp2_with (first | ((with_reducible refine gate_dst (N := 8) rfl ?_); refine Kd.N_lit (Kd.slice 21 (Kd.int .i32)) _ 23 ?hg (N' := 8) ?hd (xs := ([[]] : List (List Int))) (inner := [.slice none 0 0]) (ok := (fun k_ => (P0_ k_ ∨ w.heap.size ≤ k_))) (okp := (fun k_ => (P0_ k_ ∨ w.heap.size ≤ k_))) ?hr ?hp (fun _ hk => hk) ((show ∀ k_, w.heap.size ≤ k_ → (fun k_ => (P0_ k_ ∨ w.heap.size ≤ k_)) k_ from fun k_ hk => (.inr (Nat.le_trans (below_size (by repeat (first | (with_reducible first | exact HB.out | apply below_alloc | apply pw_below_drewN | apply below_drew1) | exact HB.out))) hk))) _ (Nat.le_refl _)) (Below.refl _ _) (Nat.le_refl _) (by simp) ?_; (case hd => rfl); (case hg => rfl); (case hr => first | (go_simp; done) | (go_simp; rfl)); (case hp => exact (Reps.one (show Kd.FK (Kd.slice 21 (Kd.int .i32)) _ _ [] [.slice none 0 0] from (Kd.FK_slice_mk (Nat.le_refl _) (Kd.F_nil _ _ _))) (Reps.none _ _))); intro v184 w2 ho3 hb hg_ hnew_; clear hg_ hnew_; (first | rw [← Ny183.out] at ho3 | (simp only [Int.reduceToNat] at ho3; rw [← Ny183.out] at ho3)); have n0_ := Aside0.mk (Kd.V_elder' (by (with_reducible repeat (first | apply Kd.V_alloc | apply Kd.V_drewN | apply Kd.V_drew)); exact HO0.out) (Kd.N_base ho3) hb); have n1_ := Aside0.mk (Kd.N_lower ho3 (below_size (by repeat (first | (with_reducible first | exact HB.out | apply below_alloc | apply pw_below_drewN | apply below_drew1) | exact HB.out)))); have n2_ := Aside0.mk (below_step (by repeat (first | (with_reducible first | exact HB.out | apply below_alloc | apply pw_below_drewN | apply below_drew1) | exact HB.out)) hb); clear HO0; clear HB; have HO0 := n0_; have HO185 := n1_; have HB := n2_; clear n0_ n1_ n2_; clear hb ho3))
  repeat (go_quiet (first | ((with_reducible refine gate_dst (N := 8) rfl ?_); refine Kd.N_lit (Kd.slice 21 (Kd.int .i32)) _ 23 ?hg (N' := 8) ?hd (xs := ([[]] : List (List Int))) (inner := [.slice none 0 0]) (ok := (fun k_ => (P0_ k_ ∨ w.heap.size ≤ k_))) (okp := (fun k_ => (P0_ k_ ∨ w.heap.size ≤ k_))) ?hr ?hp (fun _ hk => hk) ((show ∀ k_, w.heap.size ≤ k_ → (fun k_ => (P0_ k_ ∨ w.heap.size ≤ k_)) k_ from fun k_ hk => (.inr (Nat.le_trans (below_size (by repeat (first | (with_reducible first | exact HB.out | apply below_alloc | apply pw_below_drewN | apply below_drew1) | exact HB.out))) hk))) _ (Nat.le_refl _)) (Below.refl _ _) (Nat.le_refl _) (by simp) ?_; (case hd => rfl); (case hg => rfl); (case hr => first | (go_simp; done) | (go_simp; rfl)); (case hp => exact (Reps.one (show Kd.FK (Kd.slice 21 (Kd.int .i32)) _ _ [] [.slice none 0 0] from (Kd.FK_slice_mk (Nat.le_refl _) (Kd.F_nil _ _ _))) (Reps.none _ _))); intro v184 w2 ho3 hb hg_ hnew_; clear hg_ hnew_; (first | rw [← Ny183.out] at ho3 | (simp only [Int.reduceToNat] at ho3; rw [← Ny183.out] at ho3)); have n0_ := Aside0.mk (Kd.V_elder' (by (with_reducible repeat (first | apply Kd.V_alloc | apply Kd.V_drewN | apply Kd.V_drew)); exact HO0.out) (Kd.N_base ho3) hb); have n1_ := Aside0.mk (Kd.N_lower ho3 (below_size (by repeat (first | (with_reducible first | exact HB.out | apply below_alloc | apply pw_below_drewN | apply below_drew1) | exact HB.out)))); have n2_ := Aside0.mk (below_step (by repeat (first | (with_reducible first | exact HB.out | apply below_alloc | apply pw_below_drewN | apply below_drew1) | exact HB.out)) hb); clear HO0; clear HB; have HO0 := n0_; have HO185 := n1_; have HB := n2_; clear n0_ n1_ n2_; clear hb ho3)); try go_wp2_with (first | ((with_reducible refine gate_dst (N := 8) rfl ?_); refine Kd.N_lit (Kd.slice 21 (Kd.int .i32)) _ 23 ?hg (N' := 8) ?hd (xs := ([[]] : List (List Int))) (inner := [.slice none 0 0]) (ok := (fun k_ => (P0_ k_ ∨ w.heap.size ≤ k_))) (okp := (fun k_ => (P0_ k_ ∨ w.heap.size ≤ k_))) ?hr ?hp (fun _ hk => hk) ((show ∀ k_, w.heap.size ≤ k_ → (fun k_ => (P0_ k_ ∨ w.heap.size ≤ k_)) k_ from fun k_ hk => (.inr (Nat.le_trans (below_size (by repeat (first | (with_reducible first | exact HB.out | apply below_alloc | apply pw_below_drewN | apply below_drew1) | exact HB.out))) hk))) _ (Nat.le_refl _)) (Below.refl _ _) (Nat.le_refl _) (by simp) ?_; (case hd => rfl); (case hg => rfl); (case hr => first | (go_simp; done) | (go_simp; rfl)); (case hp => exact (Reps.one (show Kd.FK (Kd.slice 21 (Kd.int .i32)) _ _ [] [.slice none 0 0] from (Kd.FK_slice_mk (Nat.le_refl _) (Kd.F_nil _ _ _))) (Reps.none _ _))); intro v184 w2 ho3 hb hg_ hnew_; clear hg_ hnew_; (first | rw [← Ny183.out] at ho3 | (simp only [Int.reduceToNat] at ho3; rw [← Ny183.out] at ho3)); have n0_ := Aside0.mk (Kd.V_elder' (by (with_reducible repeat (first | apply Kd.V_alloc | apply Kd.V_drewN | apply Kd.V_drew)); exact HO0.out) (Kd.N_base ho3) hb); have n1_ := Aside0.mk (Kd.N_lower ho3 (below_size (by repeat (first | (with_reducible first | exact HB.out | apply below_alloc | apply pw_below_drewN | apply below_drew1) | exact HB.out)))); have n2_ := Aside0.mk (below_step (by repeat (first | (with_reducible first | exact HB.out | apply below_alloc | apply pw_below_drewN | apply below_drew1) | exact HB.out)) hb); clear HO0; clear HB; have HO0 := n0_; have HO185 := n1_; have HB := n2_; clear n0_ n1_ n2_; clear hb ho3)))
  go_loopg [3, 4] k (fun kq v3 v4 w' => ∃ (x3_1 : List (List Int)) (x4_1 : Int), v4 = .int .i64 x4_1 ∧ Aside0 (stanzaref07_Beginnings.l0 kq l0 x3_1 x4_1 = some r) ∧ Aside0 (kq ≤ k) ∧ Aside0 (Kd.V k39 39 w' w.heap.size (fun k_ => (P0_ k_ ∨ w.heap.size ≤ k_) ∧ some k_ ≠ (v3 : Value).ownBlock) (.slice A0 l0.length c0) l0) ∧ Aside0 (Kd.N (Kd.slice 21 (Kd.int .i32)) 23 w' w.heap.size (fun k_ => (P0_ k_ ∨ w.heap.size ≤ k_)) v3 x3_1) ∧ Aside0 (Below w.heap.size w w'))
  case atStart => exact ⟨(y183), (0), (by first | rfl | (simp; done) | (simp [*]; done)), H', ⟨Nat.le_refl _⟩, ⟨by (with_reducible repeat (first | apply Kd.V_alloc | apply Kd.V_drewN | apply Kd.V_drew)); exact HO0.out⟩, ⟨by (with_reducible repeat (first | apply Kd.N_alloc | apply Kd.N_drewN | apply Kd.N_drew)); exact HO185.out⟩, ⟨by repeat (first | (with_reducible first | exact HB.out | apply below_alloc | apply pw_below_drewN | apply below_drew1) | exact HB.out)⟩⟩
  case round =>
    clear H'
    try clear c2
    try clear p2
    obtain ⟨x3_1, x4_1, rfl, HA, HK1, HO_0, HO_3, HB⟩ := hrel
    cases gk with
    | zero => exact absurd HA.out (by simp [stanzaref07_Beginnings.l0])
    | succ k1 =>
      have H := HA.out
      clear HA
      simp only [stanzaref07_Beginnings.l0] at H
      by_cases c4 : x4_1 < (l0.length : Int)
      · rw [if_pos c4] at H
        have c4b0 : decide (x4_1 < (l0.length : Int)) = true := decide_eq_true c4
        clear c4
        have H' := Aside0.mk H
        clear H
        go_wp2
        repeat (go_quiet (fail); try go_wp2)
        go_loopg [3, 5] k1 (fun kq v3 v5 w' => ∃ (x3_2 : List (List Int)) (x5_2 : Int), v5 = .int .i64 x5_2 ∧ Aside0 (stanzaref07_Beginnings.l1 kq l0 x3_2 x4_1 x5_2 = some r) ∧ Aside0 (kq ≤ k1) ∧ Aside0 (Kd.V k39 39 w' w.heap.size (fun k_ => (P0_ k_ ∨ w.heap.size ≤ k_) ∧ some k_ ≠ (v3 : Value).ownBlock) (.slice A0 l0.length c0) l0) ∧ Aside0 (Kd.N (Kd.slice 21 (Kd.int .i32)) 23 w' w.heap.size (fun k_ => (P0_ k_ ∨ w.heap.size ≤ k_)) v3 x3_2) ∧ Aside0 (Below w.heap.size w w'))
        case atStart => exact ⟨(x3_1), (1), (by first | rfl | (simp; done) | (simp [*]; done)), H', ⟨Nat.le_refl _⟩, ⟨by (with_reducible repeat (first | apply Kd.V_alloc | apply Kd.V_drewN | apply Kd.V_drew)); exact HO_0.out⟩, ⟨by (with_reducible repeat (first | apply Kd.N_alloc | apply Kd.N_drewN | apply Kd.N_drew)); exact HO_3.out⟩, ⟨by repeat (first | (with_reducible first | exact HB.out | apply below_alloc | apply pw_below_drewN | apply below_drew1) | exact HB.out)⟩⟩
        case round =>
          clear H'
          try clear c2
          try clear p2
          try clear c4
          try clear c4b0
          try clear p2
          obtain ⟨x3_2, x5_2, rfl, HA, HK2, HO_0, HO_3, HB⟩ := hrel
          cases gk with
          | zero => exact absurd HA.out (by simp [stanzaref07_Beginnings.l1])
          | succ k2 =>
            have H := HA.out
            clear HA
            simp only [stanzaref07_Beginnings.l1] at H
            by_cases c5 : 0 ≤ x4_1
            · rw [if_pos c5] at H
              have c5b0 : decide (0 ≤ x4_1) = true := decide_eq_true c5
              clear c5
              by_cases c6 : x4_1 < (l0.length : Int)
              · rw [if_pos c6] at H
                have c6b0 : decide (x4_1 < (l0.length : Int)) = true := decide_eq_true c6
                clear c6
                by_cases c7 : x5_2 ≤ (((rd_T39 l0 x4_1).f0).length : Int)
                · rw [if_pos c7] at H
                  have c7b0 : decide (x5_2 ≤ (((rd_T39 l0 x4_1).f0).length : Int)) = true := decide_eq_true c7
                  clear c7
                  have H' := Aside0.mk H
                  clear H
                  have p186 : 0 ≤ (x4_1 : Int) := of_decide_eq_true (by first | (with_reducible assumption) | assumption)
                  have q186 : x4_1 < (l0.length : Int) := of_decide_eq_true (by first | (with_reducible assumption) | assumption)
                  obtain ⟨ad186, A186_0, c186_0, A186_1, c186_1, e186, hx186_0, hx186_1, hl186_0, hi186_0, hl186_1, hi186_1⟩ := at_T39 (Kd.V_reads' HO_0.out).2.2 x4_1 p186 q186
                  cases e186
                  obtain ⟨ce186, hce186, hMe186, hcc186⟩ := Kd.V_get HO_0.out z39 x4_1 p186 (by first | exact q186 | exact of_decide_eq_true (by first | (with_reducible assumption) | assumption) | (have e_ := (Kd.V_reads' HO_0.out).1; omega))
                  obtain ⟨ua186_0, uc186_0, ua186_1, uc186_1, rfl, ul186_0, ge186_0, ul186_1, ge186_1⟩ := k39_openF hMe186
                  have hv186_0 := hcc186 0 _ rfl
                  rw [Nat.add_zero] at hv186_0
                  replace hv186_0 := Option.some.inj (hv186_0.symm.trans hx186_0)
                  injection hv186_0 with hva_ hvn_ hvc_
                  rw [hva_] at ge186_0
                  rw [hvc_] at ul186_0
                  have HL186_0 := Aside0.mk (show Kd.V (Kd.int .i32) 21 _ w.heap.size _ _ ((rd_T39 l0 x4_1).f0) from Kd.V_mk ul186_0 ge186_0)
                  clear hva_ hvn_ hvc_ ge186_0 ul186_0
                  have hv186_1 := hcc186 1 _ rfl
                  rw [add_field _ _ 1 (by omega)] at hv186_1
                  replace hv186_1 := Option.some.inj (hv186_1.symm.trans hx186_1)
                  injection hv186_1 with hva_ hvn_ hvc_
                  rw [hva_] at ge186_1
                  rw [hvc_] at ul186_1
                  have HL186_1 := Aside0.mk (show Kd.V (Kd.int .u8) 5 _ w.heap.size _ _ ((rd_T39 l0 x4_1).f1) from Kd.V_mk ul186_1 ge186_1)
                  clear hva_ hvn_ hvc_ ge186_1 ul186_1
                  clear hcc186 hce186
                  have HR186_0 := Aside0.mk hi186_0
                  have HC186_0 := Aside0.mk hl186_0
                  clear hi186_0 hl186_0
                  have HR186_1 := Aside0.mk hi186_1
                  have HC186_1 := Aside0.mk hl186_1
                  clear hi186_1 hl186_1
                  replace p186 := eq_true p186
                  replace q186 := eq_true q186
                  go_wp2
                  repeat (go_quiet (fail); try go_wp2)
                  go_loopg [6, 7] k2 (fun kq v6 v7 w' => ∃ (x6_3 : Bool) (x7_3 : Int), v6 = .bool x6_3 ∧ v7 = .int .i64 x7_3 ∧ Aside0 (stanzaref07_Beginnings.l2 kq l0 x3_2 x4_1 x5_2 x6_3 x7_3 = some r) ∧ Aside0 (kq ≤ k2) ∧ Aside0 (Kd.V k39 39 w' w.heap.size (fun k_ => (P0_ k_ ∨ w.heap.size ≤ k_) ∧ some k_ ≠ (u3 : Value).ownBlock) (.slice (some ad186) l0.length c0) l0) ∧ Aside0 (Kd.N (Kd.slice 21 (Kd.int .i32)) 23 w' w.heap.size (fun k_ => (P0_ k_ ∨ w.heap.size ≤ k_)) u3 x3_2) ∧ Aside0 (Kd.C (Kd.int .i32) w' A186_0 ((rd_T39 l0 x4_1).f0).length ((rd_T39 l0 x4_1).f0)) ∧ Aside0 (Kd.C (Kd.int .u8) w' A186_1 ((rd_T39 l0 x4_1).f1).length ((rd_T39 l0 x4_1).f1)) ∧ Aside0 (Below w.heap.size w w'))
                  case atStart => exact ⟨(false), (0), (by first | rfl | (simp; done) | (simp [*]; done)), (by first | rfl | (simp; done) | (simp [*]; done)), H', ⟨Nat.le_refl _⟩, ⟨by (with_reducible repeat (first | apply Kd.V_alloc | apply Kd.V_drewN | apply Kd.V_drew)); exact HO_0.out⟩, ⟨by (with_reducible repeat (first | apply Kd.N_alloc | apply Kd.N_drewN | apply Kd.N_drew)); exact HO_3.out⟩, ⟨by repeat (first | (with_reducible exact HR186_0.out) | (with_reducible refine Kd.C_alloc ?_ _) | (with_reducible refine Kd.C_drewN ?_ _) | (with_reducible refine Kd.C_drew ?_) | exact HR186_0.out)⟩, ⟨by repeat (first | (with_reducible exact HR186_1.out) | (with_reducible refine Kd.C_alloc ?_ _) | (with_reducible refine Kd.C_drewN ?_ _) | (with_reducible refine Kd.C_drew ?_) | exact HR186_1.out)⟩, ⟨by repeat (first | (with_reducible first | exact HB.out | apply below_alloc | apply pw_below_drewN | apply below_drew1) | exact HB.out)⟩⟩
                  case round =>
                    clear H'
                    try clear c1
                    try clear p1
                    try clear q1
                    try clear hx1
                    try clear c2
                    try clear p2
                    try clear c4
                    try clear c4b0
                    try clear c5
                    try clear c5b0
                    try clear c6
                    try clear c6b0
                    try clear c7
                    try clear c7b0
                    try clear hx186_0
                    try clear hx186_1
                    try clear p186
                    try clear p2
                    try clear q186
                    obtain ⟨x6_3, x7_3, rfl, rfl, HA, HK3, HO_0, HO_3, HR186_0, HR186_1, HB⟩ := hrel
                    cases gk with
                    | zero => exact absurd HA.out (by simp [stanzaref07_Beginnings.l2])
                    | succ k3 =>
                      have H := HA.out
                      clear HA
                      simp only [stanzaref07_Beginnings.l2] at H
                      by_cases c8 : x7_3 < (x3_2.length : Int)
                      · rw [if_pos c8] at H
                        have c8b0 : decide (x7_3 < (x3_2.length : Int)) = true := decide_eq_true c8
                        clear c8
                        by_cases c9 : x6_3 = true
                        · subst c9
                          have H1 : (stanzaref07_Beginnings.l2 k3 l0 x3_2 x4_1 x5_2 true (wrap64 (x7_3 + 1))) = some r := by rw [if_pos rfl] at H; exact H
                          clear H
                          have H := H1
                          clear H1
                          have H' := Aside0.mk H
                          clear H
                          obtain ⟨Ao10, co10, eo10⟩ := Kd.N_slice HO_3.out
                          subst eo10
                          go_wp2
                          repeat (go_quiet (fail); try go_wp2)
                          go_roundg k3
                          case measure => have := HK1.out; have := HK2.out; have := HK3.out; omega
                          case rel => exact ⟨(true), (wrap64 (x7_3 + 1)), (by first | rfl | (simp; done) | (simp [*]; done)), (by first | rfl | (simp; done) | (simp [*]; done)), H', ⟨by have := HK1.out; have := HK2.out; have := HK3.out; omega⟩, ⟨by (with_reducible repeat (first | apply Kd.V_alloc | apply Kd.V_drewN | apply Kd.V_drew)); exact HO_0.out⟩, ⟨by (with_reducible repeat (first | apply Kd.N_alloc | apply Kd.N_drewN | apply Kd.N_drew)); exact HO_3.out⟩, ⟨by repeat (first | (with_reducible exact HR186_0.out) | (with_reducible refine Kd.C_alloc ?_ _) | (with_reducible refine Kd.C_drewN ?_ _) | (with_reducible refine Kd.C_drew ?_) | exact HR186_0.out)⟩, ⟨by repeat (first | (with_reducible exact HR186_1.out) | (with_reducible refine Kd.C_alloc ?_ _) | (with_reducible refine Kd.C_drewN ?_ _) | (with_reducible refine Kd.C_drew ?_) | exact HR186_1.out)⟩, ⟨by repeat (first | (with_reducible first | exact HB.out | apply below_alloc | apply pw_below_drewN | apply below_drew1) | exact HB.out)⟩⟩
                        · replace c9 := Bool.eq_false_iff.mpr c9
                          subst c9
                          have H1 : (if 0 ≤ x7_3 then (if 0 ≤ x4_1 then (if x4_1 < (l0.length : Int) then (if 0 ≤ x5_2 then (if x5_2 ≤ (((rd_T39 l0 x4_1).f0).length : Int) then ((stanzaref07_Same.f k3 (rd_L1 x3_2 x7_3) (((rd_T39 l0 x4_1).f0).take (x5_2 : Int).toNat)).bind fun t194 => (stanzaref07_Beginnings.l2 k3 l0 x3_2 x4_1 x5_2 t194 (wrap64 (x7_3 + 1)))) else (none)) else (none)) else (none)) else (none)) else (none)) = some r := by rw [if_neg (show ¬ (false = true) by decide)] at H; exact H
                          clear H
                          have H := H1
                          clear H1
                          by_cases c11 : 0 ≤ x7_3
                          · rw [if_pos c11] at H
                            have c11b0 : decide (0 ≤ x7_3) = true := decide_eq_true c11
                            clear c11
                            by_cases c12 : 0 ≤ x4_1
                            · rw [if_pos c12] at H
                              have c12b0 : decide (0 ≤ x4_1) = true := decide_eq_true c12
                              clear c12
                              by_cases c13 : x4_1 < (l0.length : Int)
                              · rw [if_pos c13] at H
                                have c13b0 : decide (x4_1 < (l0.length : Int)) = true := decide_eq_true c13
                                clear c13
                                by_cases c14 : 0 ≤ x5_2
                                · rw [if_pos c14] at H
                                  have c14b0 := eq_true c14
                                  have c14b1 : decide (0 ≤ x5_2) = true := decide_eq_true c14
                                  clear c14
                                  by_cases c15 : x5_2 ≤ (((rd_T39 l0 x4_1).f0).length : Int)
                                  · rw [if_pos c15] at H
                                    have c15b0 := eq_true c15
                                    have c15b1 : decide (x5_2 ≤ (((rd_T39 l0 x4_1).f0).length : Int)) = true := decide_eq_true c15
                                    clear c15
                                    obtain ⟨y189, hy189⟩ : ∃ y_ : List Int, y_ = (((rd_T39 l0 x4_1).f0).take (x5_2 : Int).toNat) := ⟨_, rfl⟩
                                    replace H : ((stanzaref07_Same.f k3 (rd_L1 x3_2 x7_3) y189).bind fun t194 => (stanzaref07_Beginnings.l2 k3 l0 x3_2 x4_1 x5_2 t194 (wrap64 (x7_3 + 1)))) = some r := by first | (rw [hy189]; with_reducible exact H) | (have H2_ := (Option.bind_some _ _).symm.trans H; rw [hy189]; with_reducible exact H2_) | (have H2_ := (Option.bind_some _ _).symm.trans H; with_reducible exact H2_) | with_reducible exact H | (rw [hy189]; exact H) | exact H
                                    have Ny189 := Aside0.mk hy189
                                    clear hy189
                                    replace H := Option.bind_eq_some_iff.mp H
                                    obtain ⟨t194, A160, H⟩ := H
                                    replace H : (stanzaref07_Beginnings.l2 k3 l0 x3_2 x4_1 x5_2 t194 (wrap64 (x7_3 + 1))) = some r := H
                                    have A16 := Aside0.mk A160
                                    clear A160
                                    have H' := Aside0.mk H
                                    clear H
                                    obtain ⟨Ao17, co17, eo17⟩ := Kd.N_slice HO_3.out
                                    subst eo17
                                    have p187 : 0 ≤ (x7_3 : Int) := of_decide_eq_true (by first | (with_reducible assumption) | assumption)
                                    have q187 : x7_3 < (x3_2.length : Int) := of_decide_eq_true (by first | (with_reducible assumption) | assumption)
                                    obtain ⟨ad187, A187_0, c187_0, e187, hx187_0, hl187_0, hi187_0⟩ := at_L1 (Kd.N_reads' HO_3.out).2.2 x7_3 p187 q187
                                    cases e187
                                    obtain ⟨ce187, hce187, hMe187, hcc187⟩ := Kd.N_get HO_3.out [] x7_3 p187 (by first | exact q187 | exact of_decide_eq_true (by first | (with_reducible assumption) | assumption) | (have e_ := (Kd.N_reads' HO_3.out).1; omega))
                                    obtain ⟨ua187_0, uc187_0, rfl, ul187_0, ge187_0⟩ := Kd.FK_slice_open hMe187
                                    have hv187_0 := hcc187 0 _ rfl
                                    rw [Nat.add_zero, show ((Kd.slice 21 (Kd.int .i32))).sz = 1 from rfl, Nat.mul_one] at hv187_0
                                    replace hv187_0 := Option.some.inj (hv187_0.symm.trans hx187_0)
                                    injection hv187_0 with hva_ hvn_ hvc_
                                    rw [hva_] at ge187_0
                                    rw [hvc_] at ul187_0
                                    have HL187_0 := Aside0.mk (show Kd.V (Kd.int .i32) 21 _ w.heap.size _ _ (rd_L1 x3_2 x7_3) from Kd.V_mk ul187_0 ge187_0)
                                    clear hva_ hvn_ hvc_ ge187_0 ul187_0
                                    clear hcc187 hce187
                                    have HR187_0 := Aside0.mk hi187_0
                                    have HC187_0 := Aside0.mk hl187_0
                                    clear hi187_0 hl187_0
                                    replace p187 := eq_true p187
                                    replace q187 := eq_true q187
                                    have p188 : 0 ≤ (x4_1 : Int) := of_decide_eq_true (by first | (with_reducible assumption) | assumption)
                                    have q188 : x4_1 < (l0.length : Int) := of_decide_eq_true (by first | (with_reducible assumption) | assumption)
                                    obtain ⟨ad188, A188_0, c188_0, A188_1, c188_1, e188, hx188_0, hx188_1, hl188_0, hi188_0, hl188_1, hi188_1⟩ := at_T39 (Kd.V_reads' HO_0.out).2.2 x4_1 p188 q188
                                    obtain rfl : ad186 = ad188 := (by injection e188)
                                    obtain ⟨ce188, hce188, hMe188, hcc188⟩ := Kd.V_get HO_0.out z39 x4_1 p188 (by first | exact q188 | exact of_decide_eq_true (by first | (with_reducible assumption) | assumption) | (have e_ := (Kd.V_reads' HO_0.out).1; omega))
                                    obtain ⟨ua188_0, uc188_0, ua188_1, uc188_1, rfl, ul188_0, ge188_0, ul188_1, ge188_1⟩ := k39_openF hMe188
                                    have hv188_0 := hcc188 0 _ rfl
                                    rw [Nat.add_zero] at hv188_0
                                    replace hv188_0 := Option.some.inj (hv188_0.symm.trans hx188_0)
                                    injection hv188_0 with hva_ hvn_ hvc_
                                    rw [hva_] at ge188_0
                                    rw [hvc_] at ul188_0
                                    have HL188_0 := Aside0.mk (show Kd.V (Kd.int .i32) 21 _ w.heap.size _ _ ((rd_T39 l0 x4_1).f0) from Kd.V_mk ul188_0 ge188_0)
                                    clear hva_ hvn_ hvc_ ge188_0 ul188_0
                                    have hv188_1 := hcc188 1 _ rfl
                                    rw [add_field _ _ 1 (by omega)] at hv188_1
                                    replace hv188_1 := Option.some.inj (hv188_1.symm.trans hx188_1)
                                    injection hv188_1 with hva_ hvn_ hvc_
                                    rw [hva_] at ge188_1
                                    rw [hvc_] at ul188_1
                                    have HL188_1 := Aside0.mk (show Kd.V (Kd.int .u8) 5 _ w.heap.size _ _ ((rd_T39 l0 x4_1).f1) from Kd.V_mk ul188_1 ge188_1)
                                    clear hva_ hvn_ hvc_ ge188_1 ul188_1
                                    clear hcc188 hce188
                                    have HR188_0 := Aside0.mk hi188_0
                                    have HC188_0 := Aside0.mk hl188_0
                                    clear hi188_0 hl188_0
                                    have HR188_1 := Aside0.mk hi188_1
                                    have HC188_1 := Aside0.mk hl188_1
                                    clear hi188_1 hl188_1
                                    replace p188 := eq_true p188
                                    replace q188 := eq_true q188
                                    have q18 : (x5_2 : Int) ≤ ((((rd_T39 l0 x4_1).f0).length : Int) : Int) := of_decide_eq_true (by first | (with_reducible assumption) | assumption)
                                    obtain ⟨i018, hi018, _, hsz18, _⟩ := info_parts info21
                                    have hroom18 : ((rd_T39 l0 x4_1).f0).length ≤ c188_0 := HC188_0.out
                                    have hC18 : Kd.F (Kd.int .i32) _ _ A188_0 ((rd_T39 l0 x4_1).f0).length ((rd_T39 l0 x4_1).f0) := (Kd.V_at (base := w.heap.size) HL188_0.out).2.2
                                    have hcut18 := cut_to (P := Try.prog) 23 21 .i64 Try.underlying23 hi018 A188_0 ((rd_T39 l0 x4_1).f0).length c188_0 x5_2 (of_decide_eq_true (by first | (with_reducible assumption) | assumption)) q18 hroom18
                                    have hr18 := Kd.F_take (m := (x5_2 : Int).toNat) hC18 (by omega)
                                    have hy18 : y189.length = (x5_2 : Int).toNat := (by rw [Ny189.out, List.length_take]; omega)
                                    rw [← Ny189.out] at hr18
                                    rw [← hy18] at hcut18
                                    have HO193 := Aside0.mk (show Kd.V (Kd.int .i32) 21 _ w.heap.size _ (.slice A188_0 y189.length c188_0) y189 from Kd.V_mk (by omega) hr18)
                                    have HC193 := Aside0.mk (show y189.length ≤ c188_0 from by omega)
                                    clear hr18 hC18 hroom18 hi018 hsz18
                                    have KY18 := Aside0.mk hy18
                                    clear hy18
                                    replace q18 := eq_true q18
                                    go_wp2_with (first | (go_at_call 38; (with_reducible refine (stanzaref07_Same.calls k3 _ _ (rd_L1 x3_2 x7_3) _ _ y189 t194 _ ?side1 ?side2 ?side3 ?side4 A16.out).mono ?_); (case side1 => repeat (first | exact (by repeat (first | (with_reducible exact HR187_0.out) | (with_reducible refine Kd.C_alloc ?_ _) | (with_reducible refine Kd.C_drewN ?_ _) | (with_reducible refine Kd.C_drew ?_) | exact HR187_0.out)) | (with_reducible refine Kd.C_alloc ?_ _) | (with_reducible refine Kd.C_drewN ?_ _) | (with_reducible refine Kd.C_drew ?_))); (case side2 => exact HC187_0.out); (case side3 => repeat (first | exact (Kd.V_reads' HO193.out).2.2 | (with_reducible refine Kd.C_alloc ?_ _) | (with_reducible refine Kd.C_drewN ?_ _) | (with_reducible refine Kd.C_drew ?_))); (case side4 => exact (Kd.V_reads' HO193.out).2.1); rintro e w' ⟨rfl, ⟨nd, rfl⟩⟩; (try first | exact ⟨rfl, _, World.drewN_drewN _ _ _⟩ | exact ⟨rfl, _, Eq.trans (World.drewN_drewN _ _ _) (congrArg (World.drewN _) (Nat.add_assoc _ _ _))⟩)))
                                    repeat (go_quiet (first | (go_at_call 38; (with_reducible refine (stanzaref07_Same.calls k3 _ _ (rd_L1 x3_2 x7_3) _ _ y189 t194 _ ?side1 ?side2 ?side3 ?side4 A16.out).mono ?_); (case side1 => repeat (first | exact (by repeat (first | (with_reducible exact HR187_0.out) | (with_reducible refine Kd.C_alloc ?_ _) | (with_reducible refine Kd.C_drewN ?_ _) | (with_reducible refine Kd.C_drew ?_) | exact HR187_0.out)) | (with_reducible refine Kd.C_alloc ?_ _) | (with_reducible refine Kd.C_drewN ?_ _) | (with_reducible refine Kd.C_drew ?_))); (case side2 => exact HC187_0.out); (case side3 => repeat (first | exact (Kd.V_reads' HO193.out).2.2 | (with_reducible refine Kd.C_alloc ?_ _) | (with_reducible refine Kd.C_drewN ?_ _) | (with_reducible refine Kd.C_drew ?_))); (case side4 => exact (Kd.V_reads' HO193.out).2.1); rintro e w' ⟨rfl, ⟨nd, rfl⟩⟩; (try first | exact ⟨rfl, _, World.drewN_drewN _ _ _⟩ | exact ⟨rfl, _, Eq.trans (World.drewN_drewN _ _ _) (congrArg (World.drewN _) (Nat.add_assoc _ _ _))⟩))); try go_wp2_with (first | (go_at_call 38; (with_reducible refine (stanzaref07_Same.calls k3 _ _ (rd_L1 x3_2 x7_3) _ _ y189 t194 _ ?side1 ?side2 ?side3 ?side4 A16.out).mono ?_); (case side1 => repeat (first | exact (by repeat (first | (with_reducible exact HR187_0.out) | (with_reducible refine Kd.C_alloc ?_ _) | (with_reducible refine Kd.C_drewN ?_ _) | (with_reducible refine Kd.C_drew ?_) | exact HR187_0.out)) | (with_reducible refine Kd.C_alloc ?_ _) | (with_reducible refine Kd.C_drewN ?_ _) | (with_reducible refine Kd.C_drew ?_))); (case side2 => exact HC187_0.out); (case side3 => repeat (first | exact (Kd.V_reads' HO193.out).2.2 | (with_reducible refine Kd.C_alloc ?_ _) | (with_reducible refine Kd.C_drewN ?_ _) | (with_reducible refine Kd.C_drew ?_))); (case side4 => exact (Kd.V_reads' HO193.out).2.1); rintro e w' ⟨rfl, ⟨nd, rfl⟩⟩; (try first | exact ⟨rfl, _, World.drewN_drewN _ _ _⟩ | exact ⟨rfl, _, Eq.trans (World.drewN_drewN _ _ _) (congrArg (World.drewN _) (Nat.add_assoc _ _ _))⟩))))
                                    go_roundg k3
                                    case measure => have := HK1.out; have := HK2.out; have := HK3.out; omega
                                    case rel => exact ⟨(t194), (wrap64 (x7_3 + 1)), (by first | rfl | (simp; done) | (simp [*]; done)), (by first | rfl | (simp; done) | (simp [*]; done)), H', ⟨by have := HK1.out; have := HK2.out; have := HK3.out; omega⟩, ⟨by (with_reducible repeat (first | apply Kd.V_alloc | apply Kd.V_drewN | apply Kd.V_drew)); exact HO_0.out⟩, ⟨by (with_reducible repeat (first | apply Kd.N_alloc | apply Kd.N_drewN | apply Kd.N_drew)); exact HO_3.out⟩, ⟨by repeat (first | (with_reducible exact HR186_0.out) | (with_reducible refine Kd.C_alloc ?_ _) | (with_reducible refine Kd.C_drewN ?_ _) | (with_reducible refine Kd.C_drew ?_) | exact HR186_0.out)⟩, ⟨by repeat (first | (with_reducible exact HR186_1.out) | (with_reducible refine Kd.C_alloc ?_ _) | (with_reducible refine Kd.C_drewN ?_ _) | (with_reducible refine Kd.C_drew ?_) | exact HR186_1.out)⟩, ⟨by repeat (first | (with_reducible first | exact HB.out | apply below_alloc | apply pw_below_drewN | apply below_drew1) | exact HB.out)⟩⟩
                                  · rw [if_neg c15] at H
                                    exact absurd H (by simp)
                                · rw [if_neg c14] at H
                                  exact absurd H (by simp)
                              · rw [if_neg c13] at H
                                exact absurd H (by simp)
                            · rw [if_neg c12] at H
                              exact absurd H (by simp)
                          · rw [if_neg c11] at H
                            exact absurd H (by simp)
                      · rw [if_neg c8] at H
                        have c8b0 : decide (x7_3 < (x3_2.length : Int)) = false := decide_eq_false c8
                        clear c8
                        by_cases c19 : x6_3 = true
                        · subst c19
                          have H1 : (stanzaref07_Beginnings.l1 k3 l0 x3_2 x4_1 (wrap64 (x5_2 + 1))) = some r := by rw [if_pos rfl] at H; exact H
                          clear H
                          have H := H1
                          clear H1
                          have H' := Aside0.mk H
                          clear H
                          obtain ⟨Ao20, co20, eo20⟩ := Kd.N_slice HO_3.out
                          subst eo20
                          go_wp2
                          repeat (go_quiet (fail); try go_wp2)
                          go_roundg k3
                          case measure => have := HK1.out; have := HK2.out; have := HK3.out; omega
                          case rel => exact ⟨(x3_2), (wrap64 (x5_2 + 1)), (by first | rfl | (simp; done) | (simp [*]; done)), H', ⟨by have := HK1.out; have := HK2.out; have := HK3.out; omega⟩, ⟨by (with_reducible repeat (first | apply Kd.V_alloc | apply Kd.V_drewN | apply Kd.V_drew)); exact HO_0.out⟩, ⟨by (with_reducible repeat (first | apply Kd.N_alloc | apply Kd.N_drewN | apply Kd.N_drew)); exact HO_3.out⟩, ⟨by repeat (first | (with_reducible first | exact HB.out | apply below_alloc | apply pw_below_drewN | apply below_drew1) | exact HB.out)⟩⟩
                        · replace c19 := Bool.eq_false_iff.mpr c19
                          subst c19
                          have H1 : (if 0 ≤ x4_1 then (if x4_1 < (l0.length : Int) then (if 0 ≤ x5_2 then (if x5_2 ≤ (((rd_T39 l0 x4_1).f0).length : Int) then (if x3_2.length < 5864062014805 then (stanzaref07_Beginnings.l1 k3 l0 (x3_2 ++ [(((rd_T39 l0 x4_1).f0).take (x5_2 : Int).toNat)]) x4_1 (wrap64 (x5_2 + 1))) else (none)) else (none)) else (none)) else (none)) else (none)) = some r := by rw [if_neg (show ¬ (false = true) by decide)] at H; exact H
                          clear H
                          have H := H1
                          clear H1
                          by_cases c21 : 0 ≤ x4_1
                          · rw [if_pos c21] at H
                            have c21b0 : decide (0 ≤ x4_1) = true := decide_eq_true c21
                            clear c21
                            by_cases c22 : x4_1 < (l0.length : Int)
                            · rw [if_pos c22] at H
                              have c22b0 : decide (x4_1 < (l0.length : Int)) = true := decide_eq_true c22
                              clear c22
                              by_cases c23 : 0 ≤ x5_2
                              · rw [if_pos c23] at H
                                have c23b0 := eq_true c23
                                have c23b1 : decide (0 ≤ x5_2) = true := decide_eq_true c23
                                clear c23
                                by_cases c24 : x5_2 ≤ (((rd_T39 l0 x4_1).f0).length : Int)
                                · rw [if_pos c24] at H
                                  have c24b0 := eq_true c24
                                  have c24b1 : decide (x5_2 ≤ (((rd_T39 l0 x4_1).f0).length : Int)) = true := decide_eq_true c24
                                  clear c24
                                  obtain ⟨y196, hy196⟩ : ∃ y_ : List Int, y_ = (((rd_T39 l0 x4_1).f0).take (x5_2 : Int).toNat) := ⟨_, rfl⟩
                                  replace H : (if x3_2.length < 5864062014805 then (stanzaref07_Beginnings.l1 k3 l0 (x3_2 ++ [y196]) x4_1 (wrap64 (x5_2 + 1))) else (none)) = some r := by first | (rw [hy196]; with_reducible exact H) | (have H2_ := (Option.bind_some _ _).symm.trans H; rw [hy196]; with_reducible exact H2_) | (have H2_ := (Option.bind_some _ _).symm.trans H; with_reducible exact H2_) | with_reducible exact H | (rw [hy196]; exact H) | exact H
                                  have Ny196 := Aside0.mk hy196
                                  clear hy196
                                  by_cases c25 : x3_2.length < 5864062014805
                                  · rw [if_pos c25] at H
                                    have LMc25 := Aside0.mk c25
                                    clear c25
                                    obtain ⟨y201, hy201⟩ : ∃ y_ : List (List Int), y_ = (x3_2 ++ [y196]) := ⟨_, rfl⟩
                                    replace H : (stanzaref07_Beginnings.l1 k3 l0 y201 x4_1 (wrap64 (x5_2 + 1))) = some r := by first | (rw [hy201]; with_reducible exact H) | (have H2_ := (Option.bind_some _ _).symm.trans H; rw [hy201]; with_reducible exact H2_) | (have H2_ := (Option.bind_some _ _).symm.trans H; with_reducible exact H2_) | with_reducible exact H | (rw [hy201]; exact H) | exact H
                                    have Ny201 := Aside0.mk hy201
                                    clear hy201
                                    have H' := Aside0.mk H
                                    clear H
                                    obtain ⟨Ao26, co26, eo26⟩ := Kd.N_slice HO_3.out
                                    subst eo26
                                    have p195 : 0 ≤ (x4_1 : Int) := of_decide_eq_true (by first | (with_reducible assumption) | assumption)
                                    have q195 : x4_1 < (l0.length : Int) := of_decide_eq_true (by first | (with_reducible assumption) | assumption)
                                    obtain ⟨ad195, A195_0, c195_0, A195_1, c195_1, e195, hx195_0, hx195_1, hl195_0, hi195_0, hl195_1, hi195_1⟩ := at_T39 (Kd.V_reads' HO_0.out).2.2 x4_1 p195 q195
                                    obtain rfl : ad186 = ad195 := (by injection e195)
                                    obtain ⟨ce195, hce195, hMe195, hcc195⟩ := Kd.V_get HO_0.out z39 x4_1 p195 (by first | exact q195 | exact of_decide_eq_true (by first | (with_reducible assumption) | assumption) | (have e_ := (Kd.V_reads' HO_0.out).1; omega))
                                    obtain ⟨ua195_0, uc195_0, ua195_1, uc195_1, rfl, ul195_0, ge195_0, ul195_1, ge195_1⟩ := k39_openF hMe195
                                    have hv195_0 := hcc195 0 _ rfl
                                    rw [Nat.add_zero] at hv195_0
                                    replace hv195_0 := Option.some.inj (hv195_0.symm.trans hx195_0)
                                    injection hv195_0 with hva_ hvn_ hvc_
                                    rw [hva_] at ge195_0
                                    rw [hvc_] at ul195_0
                                    have HL195_0 := Aside0.mk (show Kd.V (Kd.int .i32) 21 _ w.heap.size _ _ ((rd_T39 l0 x4_1).f0) from Kd.V_mk ul195_0 ge195_0)
                                    clear hva_ hvn_ hvc_ ge195_0 ul195_0
                                    have hv195_1 := hcc195 1 _ rfl
                                    rw [add_field _ _ 1 (by omega)] at hv195_1
                                    replace hv195_1 := Option.some.inj (hv195_1.symm.trans hx195_1)
                                    injection hv195_1 with hva_ hvn_ hvc_
                                    rw [hva_] at ge195_1
                                    rw [hvc_] at ul195_1
                                    have HL195_1 := Aside0.mk (show Kd.V (Kd.int .u8) 5 _ w.heap.size _ _ ((rd_T39 l0 x4_1).f1) from Kd.V_mk ul195_1 ge195_1)
                                    clear hva_ hvn_ hvc_ ge195_1 ul195_1
                                    clear hcc195 hce195
                                    have HR195_0 := Aside0.mk hi195_0
                                    have HC195_0 := Aside0.mk hl195_0
                                    clear hi195_0 hl195_0
                                    have HR195_1 := Aside0.mk hi195_1
                                    have HC195_1 := Aside0.mk hl195_1
                                    clear hi195_1 hl195_1
                                    replace p195 := eq_true p195
                                    replace q195 := eq_true q195
                                    have q27 : (x5_2 : Int) ≤ ((((rd_T39 l0 x4_1).f0).length : Int) : Int) := of_decide_eq_true (by first | (with_reducible assumption) | assumption)
                                    obtain ⟨i027, hi027, _, hsz27, _⟩ := info_parts info21
                                    have hroom27 : ((rd_T39 l0 x4_1).f0).length ≤ c195_0 := HC195_0.out
                                    have hC27 : Kd.F (Kd.int .i32) _ _ A195_0 ((rd_T39 l0 x4_1).f0).length ((rd_T39 l0 x4_1).f0) := (Kd.V_at (base := w.heap.size) HL195_0.out).2.2
                                    have hcut27 := cut_to (P := Try.prog) 23 21 .i64 Try.underlying23 hi027 A195_0 ((rd_T39 l0 x4_1).f0).length c195_0 x5_2 (of_decide_eq_true (by first | (with_reducible assumption) | assumption)) q27 hroom27
                                    have hr27 := Kd.F_take (m := (x5_2 : Int).toNat) hC27 (by omega)
                                    have hy27 : y196.length = (x5_2 : Int).toNat := (by rw [Ny196.out, List.length_take]; omega)
                                    rw [← Ny196.out] at hr27
                                    rw [← hy27] at hcut27
                                    have HO200 := Aside0.mk (show Kd.V (Kd.int .i32) 21 _ w.heap.size _ (.slice A195_0 y196.length c195_0) y196 from Kd.V_mk (by omega) hr27)
                                    have HC200 := Aside0.mk (show y196.length ≤ c195_0 from by omega)
                                    clear hr27 hC27 hroom27 hi027 hsz27
                                    have KY27 := Aside0.mk hy27
                                    clear hy27
                                    replace q27 := eq_true q27
                                    go_wp2_with (first | ((with_reducible refine gate_builtin (b := .append) (xs := #[.tmp 48, .tmp 56]) rfl ?_); at_builtin; refine Kd.N_append (Kd.slice 21 (Kd.int .i32)) (w0 := w) w.heap.size rfl (.tmp 48) (.tmp 56) 61 23 (.slice none 0 0) 24 rfl Try.underlying61 info23 rfl (by decide) (by omega) (.slice Ao26 x3_2.length co26) x3_2 y196 [.slice A195_0 y196.length c195_0] (fun k_ => (P0_ k_ ∨ w.heap.size ≤ k_)) (fun k_ => ((fun k_ => (P0_ k_ ∨ w.heap.size ≤ k_))) k_ ∧ some k_ ≠ (.slice Ao26 x3_2.length co26 : Value).ownBlock) rfl rfl ?aP (fun _ hk => hk) ?aF ?aO ?aB ?aS ?aL ?_; (case aP => exact (Kd.FK_slice_mk (Kd.V_reads' (Kd.V_mono (ok' := (fun k_ => ((fun k_ => (P0_ k_ ∨ w.heap.size ≤ k_))) k_ ∧ some k_ ≠ (.slice Ao26 x3_2.length co26 : Value).ownBlock)) (HO200.out) (fun k_ hk => ⟨hk.1, hk.2⟩))).2.1 (Kd.V_F (Kd.V_mono (ok' := (fun k_ => ((fun k_ => (P0_ k_ ∨ w.heap.size ≤ k_))) k_ ∧ some k_ ≠ (.slice Ao26 x3_2.length co26 : Value).ownBlock)) (HO200.out) (fun k_ hk => ⟨hk.1, hk.2⟩))))); (case aB => exact (by repeat (first | (with_reducible first | exact HB.out | apply below_alloc | apply pw_below_drewN | apply below_drew1) | exact HB.out))); (case aF => exact (fun k_ hk => (.inr (Nat.le_trans (below_size (by repeat (first | (with_reducible first | exact HB.out | apply below_alloc | apply pw_below_drewN | apply below_drew1) | exact HB.out))) hk)))); (case aO => exact (by (with_reducible repeat (first | apply Kd.N_alloc | apply Kd.N_drewN | apply Kd.N_drew)); exact HO_3.out)); (case aS => exact (below_size (by repeat (first | (with_reducible first | exact HB.out | apply below_alloc | apply pw_below_drewN | apply below_drew1) | exact HB.out)))); (case aL => have := LMc25.out; omega); intro v202 w28 ho hb hg hat; rw [← Ny201.out] at ho; have n0_ := Aside0.mk (Kd.V_afterv (ok := (fun k_ => (P0_ k_ ∨ w.heap.size ≤ k_))) (by (with_reducible repeat (first | apply Kd.V_alloc | apply Kd.V_drewN | apply Kd.V_drew)); exact HO_0.out) hg hat); have n1_ := Aside0.mk (Kd.V_afterv (ok := (fun k_ => (P0_ k_ ∨ w.heap.size ≤ k_))) (by (with_reducible repeat (first | apply Kd.V_alloc | apply Kd.V_drewN | apply Kd.V_drew)); exact HL195_0.out) hg hat); have n2_ := Aside0.mk (Kd.V_afterv (ok := (fun k_ => (P0_ k_ ∨ w.heap.size ≤ k_))) (by (with_reducible repeat (first | apply Kd.V_alloc | apply Kd.V_drewN | apply Kd.V_drew)); exact HL195_1.out) hg hat); have n3_ := Aside0.mk (Kd.V_afterv (ok := (fun k_ => (P0_ k_ ∨ w.heap.size ≤ k_))) (by (with_reducible repeat (first | apply Kd.V_alloc | apply Kd.V_drewN | apply Kd.V_drew)); exact HO200.out) hg hat); have n4_ := Aside0.mk (hb); have n5_ := Aside0.mk (ho); clear HO_0; clear HL195_0; clear HL195_1; clear HO200; clear HB; clear HO_3; have HO_0 := n0_; have HL195_0 := n1_; have HL195_1 := n2_; have HO200 := n3_; have HB := n4_; have HO203 := n5_; clear n0_ n1_ n2_ n3_ n4_ n5_; clear ho hb hg hat))
                                    repeat (go_quiet (first | ((with_reducible refine gate_builtin (b := .append) (xs := #[.tmp 48, .tmp 56]) rfl ?_); at_builtin; refine Kd.N_append (Kd.slice 21 (Kd.int .i32)) (w0 := w) w.heap.size rfl (.tmp 48) (.tmp 56) 61 23 (.slice none 0 0) 24 rfl Try.underlying61 info23 rfl (by decide) (by omega) (.slice Ao26 x3_2.length co26) x3_2 y196 [.slice A195_0 y196.length c195_0] (fun k_ => (P0_ k_ ∨ w.heap.size ≤ k_)) (fun k_ => ((fun k_ => (P0_ k_ ∨ w.heap.size ≤ k_))) k_ ∧ some k_ ≠ (.slice Ao26 x3_2.length co26 : Value).ownBlock) rfl rfl ?aP (fun _ hk => hk) ?aF ?aO ?aB ?aS ?aL ?_; (case aP => exact (Kd.FK_slice_mk (Kd.V_reads' (Kd.V_mono (ok' := (fun k_ => ((fun k_ => (P0_ k_ ∨ w.heap.size ≤ k_))) k_ ∧ some k_ ≠ (.slice Ao26 x3_2.length co26 : Value).ownBlock)) (HO200.out) (fun k_ hk => ⟨hk.1, hk.2⟩))).2.1 (Kd.V_F (Kd.V_mono (ok' := (fun k_ => ((fun k_ => (P0_ k_ ∨ w.heap.size ≤ k_))) k_ ∧ some k_ ≠ (.slice Ao26 x3_2.length co26 : Value).ownBlock)) (HO200.out) (fun k_ hk => ⟨hk.1, hk.2⟩))))); (case aB => exact (by repeat (first | (with_reducible first | exact HB.out | apply below_alloc | apply pw_below_drewN | apply below_drew1) | exact HB.out))); (case aF => exact (fun k_ hk => (.inr (Nat.le_trans (below_size (by repeat (first | (with_reducible first | exact HB.out | apply below_alloc | apply pw_below_drewN | apply below_drew1) | exact HB.out))) hk)))); (case aO => exact (by (with_reducible repeat (first | apply Kd.N_alloc | apply Kd.N_drewN | apply Kd.N_drew)); exact HO_3.out)); (case aS => exact (below_size (by repeat (first | (with_reducible first | exact HB.out | apply below_alloc | apply pw_below_drewN | apply below_drew1) | exact HB.out)))); (case aL => have := LMc25.out; omega); intro v202 w28 ho hb hg hat; rw [← Ny201.out] at ho; have n0_ := Aside0.mk (Kd.V_afterv (ok := (fun k_ => (P0_ k_ ∨ w.heap.size ≤ k_))) (by (with_reducible repeat (first | apply Kd.V_alloc | apply Kd.V_drewN | apply Kd.V_drew)); exact HO_0.out) hg hat); have n1_ := Aside0.mk (Kd.V_afterv (ok := (fun k_ => (P0_ k_ ∨ w.heap.size ≤ k_))) (by (with_reducible repeat (first | apply Kd.V_alloc | apply Kd.V_drewN | apply Kd.V_drew)); exact HL195_0.out) hg hat); have n2_ := Aside0.mk (Kd.V_afterv (ok := (fun k_ => (P0_ k_ ∨ w.heap.size ≤ k_))) (by (with_reducible repeat (first | apply Kd.V_alloc | apply Kd.V_drewN | apply Kd.V_drew)); exact HL195_1.out) hg hat); have n3_ := Aside0.mk (Kd.V_afterv (ok := (fun k_ => (P0_ k_ ∨ w.heap.size ≤ k_))) (by (with_reducible repeat (first | apply Kd.V_alloc | apply Kd.V_drewN | apply Kd.V_drew)); exact HO200.out) hg hat); have n4_ := Aside0.mk (hb); have n5_ := Aside0.mk (ho); clear HO_0; clear HL195_0; clear HL195_1; clear HO200; clear HB; clear HO_3; have HO_0 := n0_; have HL195_0 := n1_; have HL195_1 := n2_; have HO200 := n3_; have HB := n4_; have HO203 := n5_; clear n0_ n1_ n2_ n3_ n4_ n5_; clear ho hb hg hat)); try go_wp2_with (first | ((with_reducible refine gate_builtin (b := .append) (xs := #[.tmp 48, .tmp 56]) rfl ?_); at_builtin; refine Kd.N_append (Kd.slice 21 (Kd.int .i32)) (w0 := w) w.heap.size rfl (.tmp 48) (.tmp 56) 61 23 (.slice none 0 0) 24 rfl Try.underlying61 info23 rfl (by decide) (by omega) (.slice Ao26 x3_2.length co26) x3_2 y196 [.slice A195_0 y196.length c195_0] (fun k_ => (P0_ k_ ∨ w.heap.size ≤ k_)) (fun k_ => ((fun k_ => (P0_ k_ ∨ w.heap.size ≤ k_))) k_ ∧ some k_ ≠ (.slice Ao26 x3_2.length co26 : Value).ownBlock) rfl rfl ?aP (fun _ hk => hk) ?aF ?aO ?aB ?aS ?aL ?_; (case aP => exact (Kd.FK_slice_mk (Kd.V_reads' (Kd.V_mono (ok' := (fun k_ => ((fun k_ => (P0_ k_ ∨ w.heap.size ≤ k_))) k_ ∧ some k_ ≠ (.slice Ao26 x3_2.length co26 : Value).ownBlock)) (HO200.out) (fun k_ hk => ⟨hk.1, hk.2⟩))).2.1 (Kd.V_F (Kd.V_mono (ok' := (fun k_ => ((fun k_ => (P0_ k_ ∨ w.heap.size ≤ k_))) k_ ∧ some k_ ≠ (.slice Ao26 x3_2.length co26 : Value).ownBlock)) (HO200.out) (fun k_ hk => ⟨hk.1, hk.2⟩))))); (case aB => exact (by repeat (first | (with_reducible first | exact HB.out | apply below_alloc | apply pw_below_drewN | apply below_drew1) | exact HB.out))); (case aF => exact (fun k_ hk => (.inr (Nat.le_trans (below_size (by repeat (first | (with_reducible first | exact HB.out | apply below_alloc | apply pw_below_drewN | apply below_drew1) | exact HB.out))) hk)))); (case aO => exact (by (with_reducible repeat (first | apply Kd.N_alloc | apply Kd.N_drewN | apply Kd.N_drew)); exact HO_3.out)); (case aS => exact (below_size (by repeat (first | (with_reducible first | exact HB.out | apply below_alloc | apply pw_below_drewN | apply below_drew1) | exact HB.out)))); (case aL => have := LMc25.out; omega); intro v202 w28 ho hb hg hat; rw [← Ny201.out] at ho; have n0_ := Aside0.mk (Kd.V_afterv (ok := (fun k_ => (P0_ k_ ∨ w.heap.size ≤ k_))) (by (with_reducible repeat (first | apply Kd.V_alloc | apply Kd.V_drewN | apply Kd.V_drew)); exact HO_0.out) hg hat); have n1_ := Aside0.mk (Kd.V_afterv (ok := (fun k_ => (P0_ k_ ∨ w.heap.size ≤ k_))) (by (with_reducible repeat (first | apply Kd.V_alloc | apply Kd.V_drewN | apply Kd.V_drew)); exact HL195_0.out) hg hat); have n2_ := Aside0.mk (Kd.V_afterv (ok := (fun k_ => (P0_ k_ ∨ w.heap.size ≤ k_))) (by (with_reducible repeat (first | apply Kd.V_alloc | apply Kd.V_drewN | apply Kd.V_drew)); exact HL195_1.out) hg hat); have n3_ := Aside0.mk (Kd.V_afterv (ok := (fun k_ => (P0_ k_ ∨ w.heap.size ≤ k_))) (by (with_reducible repeat (first | apply Kd.V_alloc | apply Kd.V_drewN | apply Kd.V_drew)); exact HO200.out) hg hat); have n4_ := Aside0.mk (hb); have n5_ := Aside0.mk (ho); clear HO_0; clear HL195_0; clear HL195_1; clear HO200; clear HB; clear HO_3; have HO_0 := n0_; have HL195_0 := n1_; have HL195_1 := n2_; have HO200 := n3_; have HB := n4_; have HO203 := n5_; clear n0_ n1_ n2_ n3_ n4_ n5_; clear ho hb hg hat)))
                                    go_roundg k3
                                    case measure => have := HK1.out; have := HK2.out; have := HK3.out; omega
                                    case rel => exact ⟨(y201), (wrap64 (x5_2 + 1)), (by first | rfl | (simp; done) | (simp [*]; done)), H', ⟨by have := HK1.out; have := HK2.out; have := HK3.out; omega⟩, ⟨by (with_reducible repeat (first | apply Kd.V_alloc | apply Kd.V_drewN | apply Kd.V_drew)); exact HO_0.out⟩, ⟨by (with_reducible repeat (first | apply Kd.N_alloc | apply Kd.N_drewN | apply Kd.N_drew)); exact HO203.out⟩, ⟨by repeat (first | (with_reducible first | exact HB.out | apply below_alloc | apply pw_below_drewN | apply below_drew1) | exact HB.out)⟩⟩
                                  · rw [if_neg c25] at H
                                    exact absurd H (by simp)
                                · rw [if_neg c24] at H
                                  exact absurd H (by simp)
                              · rw [if_neg c23] at H
                                exact absurd H (by simp)
                            · rw [if_neg c22] at H
                              exact absurd H (by simp)
                          · rw [if_neg c21] at H
                            exact absurd H (by simp)
                · rw [if_neg c7] at H
                  have c7b0 : decide (x5_2 ≤ (((rd_T39 l0 x4_1).f0).length : Int)) = false := decide_eq_false c7
                  clear c7
                  have H' := Aside0.mk H
                  clear H
                  have p186 : 0 ≤ (x4_1 : Int) := of_decide_eq_true (by first | (with_reducible assumption) | assumption)
                  have q186 : x4_1 < (l0.length : Int) := of_decide_eq_true (by first | (with_reducible assumption) | assumption)
                  obtain ⟨ad186, A186_0, c186_0, A186_1, c186_1, e186, hx186_0, hx186_1, hl186_0, hi186_0, hl186_1, hi186_1⟩ := at_T39 (Kd.V_reads' HO_0.out).2.2 x4_1 p186 q186
                  cases e186
                  obtain ⟨ce186, hce186, hMe186, hcc186⟩ := Kd.V_get HO_0.out z39 x4_1 p186 (by first | exact q186 | exact of_decide_eq_true (by first | (with_reducible assumption) | assumption) | (have e_ := (Kd.V_reads' HO_0.out).1; omega))
                  obtain ⟨ua186_0, uc186_0, ua186_1, uc186_1, rfl, ul186_0, ge186_0, ul186_1, ge186_1⟩ := k39_openF hMe186
                  have hv186_0 := hcc186 0 _ rfl
                  rw [Nat.add_zero] at hv186_0
                  replace hv186_0 := Option.some.inj (hv186_0.symm.trans hx186_0)
                  injection hv186_0 with hva_ hvn_ hvc_
                  rw [hva_] at ge186_0
                  rw [hvc_] at ul186_0
                  have HL186_0 := Aside0.mk (show Kd.V (Kd.int .i32) 21 _ w.heap.size _ _ ((rd_T39 l0 x4_1).f0) from Kd.V_mk ul186_0 ge186_0)
                  clear hva_ hvn_ hvc_ ge186_0 ul186_0
                  have hv186_1 := hcc186 1 _ rfl
                  rw [add_field _ _ 1 (by omega)] at hv186_1
                  replace hv186_1 := Option.some.inj (hv186_1.symm.trans hx186_1)
                  injection hv186_1 with hva_ hvn_ hvc_
                  rw [hva_] at ge186_1
                  rw [hvc_] at ul186_1
                  have HL186_1 := Aside0.mk (show Kd.V (Kd.int .u8) 5 _ w.heap.size _ _ ((rd_T39 l0 x4_1).f1) from Kd.V_mk ul186_1 ge186_1)
                  clear hva_ hvn_ hvc_ ge186_1 ul186_1
                  clear hcc186 hce186
                  have HR186_0 := Aside0.mk hi186_0
                  have HC186_0 := Aside0.mk hl186_0
                  clear hi186_0 hl186_0
                  have HR186_1 := Aside0.mk hi186_1
                  have HC186_1 := Aside0.mk hl186_1
                  clear hi186_1 hl186_1
                  replace p186 := eq_true p186
                  replace q186 := eq_true q186
                  go_wp2
                  repeat (go_quiet (fail); try go_wp2)
                  go_roundg k2
                  case measure => have := HK1.out; have := HK2.out; omega
                  case rel => exact ⟨(x3_2), (wrap64 (x4_1 + 1)), (by first | rfl | (simp; done) | (simp [*]; done)), H', ⟨by have := HK1.out; have := HK2.out; omega⟩, ⟨by (with_reducible repeat (first | apply Kd.V_alloc | apply Kd.V_drewN | apply Kd.V_drew)); exact HO_0.out⟩, ⟨by (with_reducible repeat (first | apply Kd.N_alloc | apply Kd.N_drewN | apply Kd.N_drew)); exact HO_3.out⟩, ⟨by repeat (first | (with_reducible first | exact HB.out | apply below_alloc | apply pw_below_drewN | apply below_drew1) | exact HB.out)⟩⟩
              · rw [if_neg c6] at H
                exact absurd H (by simp)
            · rw [if_neg c5] at H
              exact absurd H (by simp)
      · rw [if_neg c4] at H
        have c4b0 : decide (x4_1 < (l0.length : Int)) = false := decide_eq_false c4
        clear c4
        obtain rfl := Option.some.inj H
        obtain ⟨Ao29, co29, eo29⟩ := Kd.N_slice HO_3.out
        subst eo29
        go_wp2
        repeat (go_quiet (fail); try go_wp2)
        go_ret
        exact ⟨by first | rfl | (simp [errW_none, errW_some] <;> rfl) | (simp [*, errW_none, errW_some] <;> rfl), by repeat (first | (with_reducible first | exact HB.out | apply below_alloc | apply pw_below_drewN | apply below_drew1) | exact HB.out)⟩

end Go.Proofs.Ytoefjhdcipgacaa.PA
