/-
  stanzalaw08.Awake answers true, whatever the world.
-/
import Derived.Test.YtoefjhdcipgacaaTrieFit
namespace Go.Proofs.Ytoefjhdcipgacaa.Tr
open Go.RowKit Go.Proofs.YtoefjhdcipgacaaW.PrintWords Go.Proofs.YtoefjhdcipgacaaW.PrintLast Go.Proofs.YtoefjhdcipgacaaW.PrintMore
open Go.Proofs.Ytoefjhdcipgacaa.PA
attribute [local go_sem] max2_int min2_int max_two min_two

def awakeL : List S39 := [⟨[104, 121, 112], [0, 0, 1, 0]⟩, ⟨[112], [2, 0]⟩]
theorem awake_fit : Fit awakeL := by
  refine ⟨by decide, fun p hp => ?_⟩
  simp only [awakeL, List.mem_cons, List.not_mem_nil, or_false] at hp
  rcases hp with rfl | rfl
  · refine ⟨by decide, by decide, fun r hr => ?_, by decide⟩
    simp only [List.mem_cons, List.not_mem_nil, or_false] at hr
    rcases hr with rfl | rfl | rfl <;> exact ⟨by decide, by decide⟩
  · refine ⟨by decide, by decide, fun r hr => ?_, by decide⟩
    simp only [List.mem_cons, List.not_mem_nil, or_false] at hr
    rcases hr with rfl
    exact ⟨by decide, by decide⟩
theorem awake_n : (make (awakeL.map pq)).n = 5 := by rfl
theorem awake_vals : values (make (awakeL.map pq)) [104, 121, 112] = [0, 0, 2, 0] := by decide +kernel
theorem awake_word : Word [104, 121, 112] := by
  refine ⟨by decide, fun r hr => ?_⟩
  simp only [List.mem_cons, List.not_mem_nil, or_false] at hr
  rcases hr with rfl | rfl | rfl <;> exact ⟨by decide, by decide⟩
theorem awake_str : strOfNums [0, 0, 2, 0] = { data := #[0, 0, 2, 0] } := by rfl
set_option maxHeartbeats 4000000 in
set_option maxRecDepth 100000 in
theorem awake_calls (w : World) : Calls Try.prog 16 #[] w fun e w' => e = .returned (.bool true) ∧ Below w.heap.size w w' := by
  go_enter Try.func16, Try.ntmps16
  go_wp2_with (first
    | ((with_reducible refine gate_dst (N := 2) rfl ?_); (refine Kd.R_lit (Kd.int .i32) (w0 := w) w.heap.size 21 ?hg (N := 2) ?hd (xs := ([104, 121, 112] : List Int)) (inner := [.int .i32 104, .int .i32 121, .int .i32 112]) (ok := fun _ => True) (okp := fun _ => True) ?hr ?hp (fun _ hk => hk) trivial (Below.refl _ _) (Nat.le_refl _) (by simp) ?_; (case hd => rfl); (case hg => rfl); (case hr => first | (go_simp; done) | (go_simp; rfl)); (case hp => exact (Reps.one (show Kd.M (Kd.int .i32) _ _ _ 104 [.int .i32 104] from rfl) (Reps.one (show Kd.M (Kd.int .i32) _ _ _ 121 [.int .i32 121] from rfl) (Reps.one (show Kd.M (Kd.int .i32) _ _ _ 112 [.int .i32 112] from rfl) (Reps.none _ _))))); intro v2 w2 ho2 hb2 hg2 hn2; clear hn2 hg2; have HO2 := Aside0.mk ho2; have HB2 := Aside0.mk hb2; clear hb2; obtain ⟨A2, c2, hv2⟩ := Kd.R_slice ho2; subst hv2; clear ho2))
    | ((with_reducible refine gate_dst (N := 3) rfl ?_); (refine Kd.R_lit (Kd.int .u8) (w0 := w) w.heap.size 5 ?hg (N := 3) ?hd (xs := ([0, 0, 1, 0] : List Int)) (inner := [.int .u8 0, .int .u8 0, .int .u8 1, .int .u8 0]) (ok := fun _ => True) (okp := fun _ => True) ?hr ?hp (fun _ hk => hk) trivial HB2.out (below_size HB2.out) (by simp) ?_; (case hd => rfl); (case hg => rfl); (case hr => first | (go_simp; done) | (go_simp; rfl)); (case hp => exact (Reps.one (show Kd.M (Kd.int .u8) _ _ _ 0 [.int .u8 0] from rfl) (Reps.one (show Kd.M (Kd.int .u8) _ _ _ 0 [.int .u8 0] from rfl) (Reps.one (show Kd.M (Kd.int .u8) _ _ _ 1 [.int .u8 1] from rfl) (Reps.one (show Kd.M (Kd.int .u8) _ _ _ 0 [.int .u8 0] from rfl) (Reps.none _ _)))))); intro v3 w3 ho3 hb3 hg3 hn3; clear hn3; have HO3 := Aside0.mk ho3; have HB3 := Aside0.mk hb3; clear hb3; replace HO2 := Aside0.mk (Kd.R_grown HO2.out hg3 (fun _ _ => by simp)); obtain ⟨A3, c3, hv3⟩ := Kd.R_slice ho3; subst hv3; clear ho3 hg3 HB2))
    | ((with_reducible refine gate_dst (N := 5) rfl ?_); (refine Kd.R_lit (Kd.int .i32) (w0 := w) w.heap.size 21 ?hg (N := 5) ?hd (xs := ([112] : List Int)) (inner := [.int .i32 112]) (ok := fun _ => True) (okp := fun _ => True) ?hr ?hp (fun _ hk => hk) trivial HB3.out (below_size HB3.out) (by simp) ?_; (case hd => rfl); (case hg => rfl); (case hr => first | (go_simp; done) | (go_simp; rfl)); (case hp => exact (Reps.one (show Kd.M (Kd.int .i32) _ _ _ 112 [.int .i32 112] from rfl) (Reps.none _ _))); intro v5 w5 ho5 hb5 hg5 hn5; clear hn5; have HO5 := Aside0.mk ho5; have HB5 := Aside0.mk hb5; clear hb5; replace HO2 := Aside0.mk (Kd.R_grown HO2.out hg5 (fun _ _ => by simp)); replace HO3 := Aside0.mk (Kd.R_grown HO3.out hg5 (fun _ _ => by simp)); obtain ⟨A5, c5, hv5⟩ := Kd.R_slice ho5; subst hv5; clear ho5 hg5 HB3))
    | ((with_reducible refine gate_dst (N := 6) rfl ?_); (refine Kd.R_lit (Kd.int .u8) (w0 := w) w.heap.size 5 ?hg (N := 6) ?hd (xs := ([2, 0] : List Int)) (inner := [.int .u8 2, .int .u8 0]) (ok := fun _ => True) (okp := fun _ => True) ?hr ?hp (fun _ hk => hk) trivial HB5.out (below_size HB5.out) (by simp) ?_; (case hd => rfl); (case hg => rfl); (case hr => first | (go_simp; done) | (go_simp; rfl)); (case hp => exact (Reps.one (show Kd.M (Kd.int .u8) _ _ _ 2 [.int .u8 2] from rfl) (Reps.one (show Kd.M (Kd.int .u8) _ _ _ 0 [.int .u8 0] from rfl) (Reps.none _ _)))); intro v6 w6 ho6 hb6 hg6 hn6; clear hn6; have HO6 := Aside0.mk ho6; have HB6 := Aside0.mk hb6; clear hb6; replace HO2 := Aside0.mk (Kd.R_grown HO2.out hg6 (fun _ _ => by simp)); replace HO3 := Aside0.mk (Kd.R_grown HO3.out hg6 (fun _ _ => by simp)); replace HO5 := Aside0.mk (Kd.R_grown HO5.out hg6 (fun _ _ => by simp)); obtain ⟨A6, c6, hv6⟩ := Kd.R_slice ho6; subst hv6; clear ho6 hg6 HB5))
    | ((with_reducible refine gate_dst (N := 8) rfl ?_); (refine Kd.R_lit k39 (w0 := w) w.heap.size 39 ?hg (N := 8) ?hd (xs := awakeL) (inner := [.slice A2 3 c2, .slice A3 4 c3, .slice A5 1 c5, .slice A6 2 c6]) (ok := fun _ => True) (okp := fun _ => True) ?hr ?hp (fun _ hk => hk) trivial HB6.out (below_size HB6.out) (by decide) ?_; (case hd => rfl); (case hg => rfl); (case hr => first | (go_simp; done) | (go_simp; rfl)); (case hp => exact (Reps.c2 (k39_mkM _ _ _ ⟨[104, 121, 112], [0, 0, 1, 0]⟩ HO2.out HO3.out) (Reps.c2 (k39_mkM _ _ _ ⟨[112], [2, 0]⟩ HO5.out HO6.out) (Reps.none _ _)))); intro v8 w8 ho8 hb8 hg8 hn8; clear hn8 hg8; have HB8 := Aside0.mk hb8; clear hb8; obtain ⟨A8, c8, hv8, hl8, hc8⟩ := Kd.R_reads ho8; subst hv8; have HC8 := Aside0.mk hc8; have HL8 := Aside0.mk hl8; clear ho8 hc8 hl8 HO2 HO3 HO5 HO6 HB6))
    | ((with_reducible refine gate_callee (f := 19) rfl ?_); (refine goesL_ (some 9) rfl rfl Try.func19 (by kernel_rfl) rfl #[.slice A8 awakeL.length c8] rfl (by (try simp only [List.map_toArray, List.map_cons, List.map_nil]); first | done | rfl) ?_; refine (make_fit awakeL A8 c8 _ HC8.out HL8.out awake_fit).mono ?_; rintro e w9 ⟨bt, rfl, hT, hb9⟩; refine ⟨_, rfl, ?_⟩; have HT := Aside0.mk hT; have HB9 := Aside0.mk (below_step HB8.out hb9); clear hT hb9 HC8 HL8 HB8))
    | ((with_reducible refine gate_callee (f := 22) rfl ?_); (refine goesL_ (some 11) rfl rfl Try.func22 (by kernel_rfl) rfl #[.pointer (some ⟨bt, 0, none⟩)] rfl (by (try simp only [List.map_toArray, List.map_cons, List.map_nil]); first | done | rfl) ?_; refine (size_calls _ _ bt _ HT.out).mono ?_; rintro e w9' ⟨rfl, rfl⟩; refine ⟨_, rfl, ?_⟩; rw [awake_n]))
    | ((with_reducible refine gate_dst (N := 15) rfl ?_); (refine gate_guard (by rfl) ?_; dsimp only); (refine Kd.R_lit (Kd.int .i32) (w0 := w) w.heap.size 21 ?hg (N := 15) ?hd (xs := ([104, 121, 112] : List Int)) (inner := [.int .i32 104, .int .i32 121, .int .i32 112]) (ok := fun _ => True) (okp := fun _ => True) ?hr ?hp (fun _ hk => hk) trivial HB9.out (below_size HB9.out) (by simp) ?_; (case hd => rfl); (case hg => rfl); (case hr => first | (go_simp; done) | (go_simp; rfl)); (case hp => exact (Reps.one (show Kd.M (Kd.int .i32) _ _ _ 104 [.int .i32 104] from rfl) (Reps.one (show Kd.M (Kd.int .i32) _ _ _ 121 [.int .i32 121] from rfl) (Reps.one (show Kd.M (Kd.int .i32) _ _ _ 112 [.int .i32 112] from rfl) (Reps.none _ _))))); intro v15 w15 ho15 hb15 hg15 hn15; clear hn15; have HB15 := Aside0.mk hb15; replace HT := Aside0.mk (HT.out.below ((Below.refl _ _).grown hg15 (Nat.le_refl _) (fun k h => by simp at h))); clear hb15 hg15; obtain ⟨A15, c15, hv15, hl15, hc15⟩ := Kd.R_reads ho15; subst hv15; have HC15 := Aside0.mk hc15; have HL15 := Aside0.mk hl15; clear ho15 hl15 hc15 HB9))
    | ((with_reducible refine gate_callee (f := 20) rfl ?_); (refine gate_guard (by rfl) ?_; dsimp only); (refine goesL_ (some 16) rfl rfl Try.func20 (by kernel_rfl) rfl #[.pointer (some ⟨bt, 0, none⟩), .slice A15 3 c15] rfl (by (try simp only [List.map_toArray, List.map_cons, List.map_nil]); first | done | rfl) ?_; refine (values_fit awakeL _ bt A15 c15 [104, 121, 112] _ HT.out HC15.out HL15.out awake_fit awake_word).mono ?_; rintro e w16 ⟨v16, rfl, hV, hb16⟩; refine ⟨_, rfl, ?_⟩; rw [awake_vals] at hV; have hcv := own_string (P := Try.prog) Try.underlying27 Try.underlying5 Try.underlying9 (Kd.own_of_R hV); rw [awake_str] at hcv; have HB16 := Aside0.mk (below_step HB15.out hb16); clear hb16 HC15 HL15 HB15)))
  go_ret
  exact ⟨rfl, HB16.out⟩
end Go.Proofs.Ytoefjhdcipgacaa.Tr
