/-
  stanzalaw08.TrieJoins answers true, whatever patterns and word lie in memory.
-/
import Derived.Test.YtoefjhdcipgacaaAwake08
import Derived.BigRegion
namespace Go.Proofs.Ytoefjhdcipgacaa.Tr
open Go.RowKit Go.Proofs.YtoefjhdcipgacaaW.PrintWords Go.Proofs.YtoefjhdcipgacaaW.PrintLast Go.Proofs.YtoefjhdcipgacaaW.PrintMore
open Go.Proofs.Ytoefjhdcipgacaa.PA
attribute [local go_sem] max2_int min2_int max_two min_two

theorem best_join {a b : List Pat} {whole X Y Z : List Int} (hx : Best a whole X) (hy : Best b whole Y) (hz : Best (a ++ b) whole Z) (lx : X.length = Z.length) (ly : Y.length = Z.length) (j : Nat) (hj : j < Z.length) : Z.getD j 0 = max (X.getD j 0) (Y.getD j 0) := by
  have h1 := hx.le hz (fun p hp => List.mem_append_left _ hp) lx j
  have h2 := hy.le hz (fun p hp => List.mem_append_right _ hp) ly j
  obtain ⟨x0, x1, _⟩ := hx j (by omega)
  obtain ⟨_, y1, _⟩ := hy j (by omega)
  obtain ⟨_, _, z⟩ := hz j hj
  have h3 : Z.getD j 0 ≤ max (X.getD j 0) (Y.getD j 0) := by
    rcases z with z | ⟨s, p, hp, hw, hs, z⟩
    · rw [z]; exact Int.le_trans x0 (Int.le_max_left _ _)
    · rw [← z]
      rcases List.mem_append.1 hp with hp | hp
      · exact Int.le_trans (x1 s p hp hw hs) (Int.le_max_left _ _)
      · exact Int.le_trans (y1 s p hp hw hs) (Int.le_max_right _ _)
  exact Int.le_antisymm h3 (Int.max_le.2 ⟨h1, h2⟩)
theorem fit_join {L M : List S39} (hL : Fit L) (hM : Fit M) (l1 : L.length ≤ 40) (l2 : M.length ≤ 40) : Fit (L ++ M) := Fit.append hL.2 hM.2 (by rw [List.length_append]; omega)
theorem vals_join {L M : List S39} (hL : Fit L) (hM : Fit M) (hF : Fit (L ++ M)) (D : List Int) (j : Nat) (hj : j < D.length + 1) :
    (values (make ((L ++ M).map pq)) D).getD j 0 = max ((values (make (L.map pq)) D).getD j 0) ((values (make (M.map pq)) D).getD j 0) := by
  have hz := values_best _ hF.nn D
  rw [List.map_append] at hz ⊢
  exact best_join (values_best _ hL.nn D) (values_best _ hM.nn D) hz (by rw [values_length, values_length]) (by rw [values_length, values_length]) j (by rw [values_length]; exact hj)
set_option maxHeartbeats 4000000 in
set_option maxRecDepth 100000 in
theorem trieJoins_row (a : List S39) (A : Option Addr) (c : Nat) (b : List S39) (A' : Option Addr) (c' : Nat) (wd : List Int) (A2 : Option Addr) (c2 : Nat) (w : World) (ha : Kd.C k39 w A a.length a) (hac : a.length ≤ c) (pa : Pats a)
    (hb0 : Kd.C k39 w A' b.length b) (hbc : b.length ≤ c') (pb : Pats b) (hw : Kd.C (Kd.int .i32) w A2 wd.length wd) (hwc : wd.length ≤ c2) (h32 : ∀ r ∈ wd, In32 r) :
    Calls Try.prog 8 #[.slice A a.length c, .slice A' b.length c', .slice A2 wd.length c2] w fun e w' => e = .returned (.bool true) ∧ Below w.heap.size w w' := by
  have HA := Aside0.mk ha
  have HAc := Aside0.mk hac
  have HQ := Aside0.mk hb0
  have HQc := Aside0.mk hbc
  have HW := Aside0.mk hw
  have HWc := Aside0.mk hwc
  have HFa := Aside0.mk (And.intro (small_fit true a pa) (Sm.smallTo_len true a 40))
  have HFb := Aside0.mk (And.intro (small_fit true b pb) (Sm.smallTo_len true b 40))
  have HD := Aside0.mk (word_fit true wd h32)
  clear ha hac hb0 hbc hw hwc pa pb h32
  change Aside0 (Fit (Sm.small true a) ∧ (Sm.small true a).length ≤ 40) at HFa
  change Aside0 (Fit (Sm.small true b) ∧ (Sm.small true b).length ≤ 40) at HFb
  go_enter Try.func8, Try.ntmps8
  go_wp2_with (first
    | ((with_reducible refine gate_callee (f := 16) rfl ?_); (refine goesL_ (some 11) rfl rfl Try.func16 (by kernel_rfl) rfl #[] rfl (by (try simp only [List.map_toArray, List.map_cons, List.map_nil]); first | done | rfl) ?_; refine (awake_calls _).mono ?_; rintro e w1 ⟨rfl, hb⟩; refine ⟨_, rfl, ?_⟩; replace HA := Aside0.mk (Kd.C_below HA.out hb); replace HQ := Aside0.mk (Kd.C_below HQ.out hb); replace HW := Aside0.mk (Kd.C_below HW.out hb); have HB := Aside0.mk hb; clear hb))
    | ((with_reducible refine gate_callee (f := 17) rfl ?_); (refine goesL_ (some 14) rfl rfl Try.func17 (by kernel_rfl) rfl #[.slice A a.length c, .bool true] rfl (by (try simp only [List.map_toArray, List.map_cons, List.map_nil]); first | done | rfl) ?_; refine (Sm.small_calls true a A c _ HA.out HAc.out).mono ?_; rintro e w2 ⟨v_, rfl, hr_, hb⟩; refine ⟨_, rfl, ?_⟩; replace HQ := Aside0.mk (Kd.C_below HQ.out hb); replace HW := Aside0.mk (Kd.C_below HW.out hb); replace HB := Aside0.mk (below_step HB.out hb); obtain ⟨A3, c3, hv_, hl_, hc_⟩ := Kd.R_reads hr_; subst hv_; replace HA := Aside0.mk hc_; replace HAc := Aside0.mk hl_; clear hr_ hl_ hc_; generalize Sm.small true a = L at HA HAc HFa ⊢; clear hb))
    | ((with_reducible refine gate_callee (f := 17) rfl ?_); (refine goesL_ (some 16) rfl rfl Try.func17 (by kernel_rfl) rfl #[.slice A' b.length c', .bool true] rfl (by (try simp only [List.map_toArray, List.map_cons, List.map_nil]); first | done | rfl) ?_; refine (Sm.small_calls true b A' c' _ HQ.out HQc.out).mono ?_; rintro e w3 ⟨v_, rfl, hr_, hb⟩; refine ⟨_, rfl, ?_⟩; replace HA := Aside0.mk (Kd.C_below HA.out hb); replace HW := Aside0.mk (Kd.C_below HW.out hb); replace HB := Aside0.mk (below_step HB.out hb); obtain ⟨A4, c4, hv_, hl_, hc_⟩ := Kd.R_reads hr_; subst hv_; replace HQ := Aside0.mk hc_; replace HQc := Aside0.mk hl_; clear hr_ hl_ hc_; generalize Sm.small true b = M at HQ HQc HFb ⊢; clear hb))
    | ((with_reducible refine gate_callee (f := 18) rfl ?_); (refine goesL_ (some 18) rfl rfl Try.func18 (by kernel_rfl) rfl #[.slice A2 wd.length c2, .bool true] rfl (by (try simp only [List.map_toArray, List.map_cons, List.map_nil]); first | done | rfl) ?_; refine (Lf.word_calls A2 c2 wd true _ HW.out HWc.out).mono ?_; rintro e w4 ⟨v_, rfl, hr_, hb⟩; refine ⟨_, rfl, ?_⟩; replace HA := Aside0.mk (Kd.C_below HA.out hb); replace HQ := Aside0.mk (Kd.C_below HQ.out hb); replace HB := Aside0.mk (below_step HB.out hb); obtain ⟨A5, c5, hv_, hl_, hc_⟩ := Kd.R_reads hr_; subst hv_; replace HW := Aside0.mk hc_; replace HWc := Aside0.mk hl_; clear hr_ hl_ hc_; generalize Lf.word true wd = D at HW HWc HD ⊢; clear hb); have hdn := HD.out.1)
    | ((with_reducible refine gate_callee (f := 19) rfl ?_); (refine goesL_ (some 20) rfl rfl Try.func19 (by kernel_rfl) rfl #[.slice A3 L.length c3] rfl (by (try simp only [List.map_toArray, List.map_cons, List.map_nil]); first | done | rfl) ?_; refine (make_fit L A3 c3 _ HA.out HAc.out HFa.out.1).mono ?_; rintro e w5 ⟨bt1, rfl, hT_, hb⟩; refine ⟨_, rfl, ?_⟩; replace HA := Aside0.mk (Kd.C_below HA.out hb); replace HQ := Aside0.mk (Kd.C_below HQ.out hb); replace HW := Aside0.mk (Kd.C_below HW.out hb); replace HB := Aside0.mk (below_step HB.out hb); have HT1 := Aside0.mk hT_; clear hT_; clear hb))
    | ((with_reducible refine gate_callee (f := 20) rfl ?_); (refine goesL_ (some 22) rfl rfl Try.func20 (by kernel_rfl) rfl #[.pointer (some ⟨bt1, 0, none⟩), .slice A5 D.length c5] rfl (by (try simp only [List.map_toArray, List.map_cons, List.map_nil]); first | done | rfl) ?_; refine (values_fit L _ bt1 A5 c5 D _ HT1.out HW.out HWc.out HFa.out.1 HD.out).mono ?_; rintro e w6 ⟨v_, rfl, hr_, hb⟩; refine ⟨_, rfl, ?_⟩; replace HA := Aside0.mk (Kd.C_below HA.out hb); replace HQ := Aside0.mk (Kd.C_below HQ.out hb); replace HW := Aside0.mk (Kd.C_below HW.out hb); replace HB := Aside0.mk (below_step HB.out hb); obtain ⟨X, hx_⟩ : ∃ X, values (make (List.map pq L)) D = X := ⟨_, rfl⟩; rw [hx_] at hr_; have hXl : X.length = D.length + 1 := (by rw [← hx_]; exact values_length _ _); have HXe := Aside0.mk hx_; obtain ⟨A6, c6, hv_, _, hc_⟩ := Kd.R_reads hr_; subst hv_; have HX := Aside0.mk hc_; clear hr_ hc_ hx_; clear hb; clear HT1))
    | ((with_reducible refine gate_callee (f := 19) rfl ?_); (refine goesL_ (some 24) rfl rfl Try.func19 (by kernel_rfl) rfl #[.slice A4 M.length c4] rfl (by (try simp only [List.map_toArray, List.map_cons, List.map_nil]); first | done | rfl) ?_; refine (make_fit M A4 c4 _ HQ.out HQc.out HFb.out.1).mono ?_; rintro e w7 ⟨bt2, rfl, hT_, hb⟩; refine ⟨_, rfl, ?_⟩; replace HA := Aside0.mk (Kd.C_below HA.out hb); replace HQ := Aside0.mk (Kd.C_below HQ.out hb); replace HW := Aside0.mk (Kd.C_below HW.out hb); replace HB := Aside0.mk (below_step HB.out hb); replace HX := Aside0.mk (Kd.C_below HX.out hb); have HT2 := Aside0.mk hT_; clear hT_; clear hb))
    | ((with_reducible refine gate_callee (f := 20) rfl ?_); (refine goesL_ (some 26) rfl rfl Try.func20 (by kernel_rfl) rfl #[.pointer (some ⟨bt2, 0, none⟩), .slice A5 D.length c5] rfl (by (try simp only [List.map_toArray, List.map_cons, List.map_nil]); first | done | rfl) ?_; refine (values_fit M _ bt2 A5 c5 D _ HT2.out HW.out HWc.out HFb.out.1 HD.out).mono ?_; rintro e w8 ⟨v_, rfl, hr_, hb⟩; refine ⟨_, rfl, ?_⟩; replace HA := Aside0.mk (Kd.C_below HA.out hb); replace HQ := Aside0.mk (Kd.C_below HQ.out hb); replace HW := Aside0.mk (Kd.C_below HW.out hb); replace HB := Aside0.mk (below_step HB.out hb); replace HX := Aside0.mk (Kd.C_below HX.out hb); obtain ⟨Y, hx_⟩ : ∃ X, values (make (List.map pq M)) D = X := ⟨_, rfl⟩; rw [hx_] at hr_; have hYl : Y.length = D.length + 1 := (by rw [← hx_]; exact values_length _ _); have HYe := Aside0.mk hx_; obtain ⟨A8, c8, hv_, _, hc_⟩ := Kd.R_reads hr_; subst hv_; have HY := Aside0.mk hc_; clear hr_ hc_ hx_; clear hb; clear HT2))
    | ((with_reducible refine gate_dst (N := 27) rfl ?_); (refine Kd.N_lit k39 (w0 := w8) w8.heap.size 39 ?hg (N' := 27) ?hd (xs := ([] : List S39)) (inner := []) (ok := fun _ => True) (okp := fun _ => True) ?hr ?hp (fun _ hk => hk) trivial (Below.refl _ _) (Nat.le_refl _) (by simp) ?_; (case hd => rfl); (case hg => rfl); (case hr => first | (go_simp; done) | (go_simp; rfl)); (case hp => exact Reps.none _ _); intro v27 w27 hn_ hb_ hg_ hat_; have HN := Aside0.mk hn_; have HB7 := Aside0.mk hb_; clear hn_ hb_ hg_ hat_))
    | ((with_reducible refine gate_builtin (b := .append) (xs := #[.tmp 27, .tmp 28]) rfl ?_); at_builtin; (refine Kd.N_append_rows k39 (w0 := w8) w8.heap.size rfl (.tmp 27) (.tmp 28) 22 39 (.agg #[.slice none 0 0, .slice none 0 0]) 48 rfl Try.underlying22 info39 rfl (by decide) (by decide) v27 [] L A3 L.length c3 (fun _ => True) (fun k => k < w8.heap.size) rfl rfl HN.out (Kd.F_below (Kd.C_F k39_heap HA.out) HB7.out) (fun k hk => ⟨trivial, fun e => by have := Kd.N_base HN.out k e.symm; omega⟩) (fun _ _ => trivial) HB7.out (below_size HB7.out) (by have := HFa.out.2; have := HFb.out.2; simp; omega) ?_; intro v29 w29 hn_ hb_ hg_ hat_; clear hg_ hat_; replace HN := Aside0.mk hn_; have HB9 := Aside0.mk hb_; clear hn_ hb_ HB7))
    | ((with_reducible refine gate_builtin (b := .append) (xs := #[.tmp 29, .tmp 30]) rfl ?_); at_builtin; (refine Kd.N_append_rows k39 (w0 := w8) w8.heap.size rfl (.tmp 29) (.tmp 30) 22 39 (.agg #[.slice none 0 0, .slice none 0 0]) 48 rfl Try.underlying22 info39 rfl (by decide) (by decide) v29 ([] ++ L) M A4 M.length c4 (fun _ => True) (fun k => k < w8.heap.size) rfl rfl HN.out (Kd.F_below (Kd.C_F k39_heap HQ.out) HB9.out) (fun k hk => ⟨trivial, fun e => by have := Kd.N_base HN.out k e.symm; omega⟩) (fun _ _ => trivial) HB9.out (below_size HB9.out) (by have := HFa.out.2; have := HFb.out.2; simp; omega) ?_; intro v31 w31 hn_ hb_ hg_ hat_; clear hg_ hat_; have hb := hb_; replace HA := Aside0.mk (Kd.C_below HA.out hb); replace HQ := Aside0.mk (Kd.C_below HQ.out hb); replace HW := Aside0.mk (Kd.C_below HW.out hb); replace HB := Aside0.mk (below_step HB.out hb); replace HX := Aside0.mk (Kd.C_below HX.out hb); replace HY := Aside0.mk (Kd.C_below HY.out hb); obtain ⟨A9, c9, hv_, hl_, hc_⟩ := Kd.N_reads hn_; subst hv_; rw [List.nil_append] at hl_ hc_ ⊢; have HZl := Aside0.mk hc_; have HZlc := Aside0.mk hl_; clear hb_ hb hn_ hl_ hc_ HB9 HN))
    | ((with_reducible refine gate_callee (f := 19) rfl ?_); (refine goesL_ (some 32) rfl rfl Try.func19 (by kernel_rfl) rfl #[.slice A9 (L ++ M).length c9] rfl (by (try simp only [List.map_toArray, List.map_cons, List.map_nil]); first | done | rfl) ?_; refine (make_fit (L ++ M) A9 c9 _ HZl.out HZlc.out (fit_join HFa.out.1 HFb.out.1 HFa.out.2 HFb.out.2)).mono ?_; rintro e w10 ⟨bt3, rfl, hT_, hb⟩; refine ⟨_, rfl, ?_⟩; replace HA := Aside0.mk (Kd.C_below HA.out hb); replace HQ := Aside0.mk (Kd.C_below HQ.out hb); replace HW := Aside0.mk (Kd.C_below HW.out hb); replace HB := Aside0.mk (below_step HB.out hb); replace HX := Aside0.mk (Kd.C_below HX.out hb); replace HY := Aside0.mk (Kd.C_below HY.out hb); replace HZl := Aside0.mk (Kd.C_below HZl.out hb); have HT3 := Aside0.mk hT_; clear hT_; clear hb))
    | ((with_reducible refine gate_callee (f := 20) rfl ?_); (refine goesL_ (some 34) rfl rfl Try.func20 (by kernel_rfl) rfl #[.pointer (some ⟨bt3, 0, none⟩), .slice A5 D.length c5] rfl (by (try simp only [List.map_toArray, List.map_cons, List.map_nil]); first | done | rfl) ?_; refine (values_fit (L ++ M) _ bt3 A5 c5 D _ HT3.out HW.out HWc.out (fit_join HFa.out.1 HFb.out.1 HFa.out.2 HFb.out.2) HD.out).mono ?_; rintro e w11 ⟨v_, rfl, hr_, hb⟩; refine ⟨_, rfl, ?_⟩; replace HA := Aside0.mk (Kd.C_below HA.out hb); replace HQ := Aside0.mk (Kd.C_below HQ.out hb); replace HW := Aside0.mk (Kd.C_below HW.out hb); replace HB := Aside0.mk (below_step HB.out hb); replace HX := Aside0.mk (Kd.C_below HX.out hb); replace HY := Aside0.mk (Kd.C_below HY.out hb); replace HZl := Aside0.mk (Kd.C_below HZl.out hb); obtain ⟨Z, hx_⟩ : ∃ X, values (make (List.map pq (L ++ M))) D = X := ⟨_, rfl⟩; rw [hx_] at hr_; have hZl : Z.length = D.length + 1 := (by rw [← hx_]; exact values_length _ _); have HZe := Aside0.mk hx_; obtain ⟨A11, c11, hv_, _, hc_⟩ := Kd.R_reads hr_; subst hv_; have HZ := Aside0.mk hc_; clear hr_ hc_ hx_; clear hb; clear HT3)))
  go_loopg [10, 57] (D.length + 1) (fun g v10 v57 w' => ∃ i : Nat, v57 = .int .i64 i ∧ Aside0 (g + i = D.length + 1) ∧ ∃ n, w' = w11.drewN n)
  case atStart => exact ⟨0, rfl, ⟨rfl⟩, 0, rfl⟩
  case round =>
    obtain ⟨i, rfl, HG, nd, rfl⟩ := hrel
    by_cases hi : i < D.length + 1
    · have p1 : (0 : Int) ≤ (i : Int) := by omega
      obtain ⟨az, ez, hz⟩ := Kd.at_int HZ.out (i : Int) p1 (by omega)
      obtain ⟨ax, ex, hx⟩ := Kd.at_int HX.out (i : Int) p1 (by omega)
      obtain ⟨ay, ey, hy⟩ := Kd.at_int HY.out (i : Int) p1 (by omega)
      subst ez ex ey
      have hmax : rd Z (i : Int) = max (rd X (i : Int)) (rd Y (i : Int)) := by
        have := vals_join HFa.out.1 HFb.out.1 (fit_join HFa.out.1 HFb.out.1 HFa.out.2 HFb.out.2) D i hi
        rw [HXe.out, HYe.out, HZe.out] at this
        exact this
      rw [hmax] at hz
      generalize rd X (i : Int) = x at hx hz hmax
      generalize rd Y (i : Int) = y at hy hz hmax
      have HM := Aside0.mk hmax
      clear hmax
      rw [Int.toNat_natCast] at hx hy hz
      have q0 : decide ((0 : Int) ≤ (i : Int)) = true := by simp
      have qz : decide ((i : Int) < (Z.length : Int)) = true := by simp; omega
      have qx : decide ((i : Int) < (X.length : Int)) = true := by simp; omega
      have qy : decide ((i : Int) < (Y.length : Int)) = true := by simp; omega
      go_wp2_with fail
      go_region
      all_goals go_wp2_with fail
      all_goals
        go_roundg (D.length + 1 - (i + 1))
        case measure => have := HG.out; omega
        case rel => exact ⟨i + 1, by go_num, ⟨by omega⟩, _, rfl⟩
    · have hie : i = D.length + 1 := by have := HG.out; omega
      subst hie
      clear HG hi
      go_wp2_with fail
      go_ret
      exact ⟨rfl, pw_below_drewN HB.out _⟩
end Go.Proofs.Ytoefjhdcipgacaa.Tr
