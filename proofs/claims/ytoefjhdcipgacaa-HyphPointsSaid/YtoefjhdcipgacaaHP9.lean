/-
 Part 9 of what the law HyphPoints rests on: contracts of the functions that it calls, and plain laws of what they compute.
-/
import Derived.Deep.RegionWith
import Derived.Test.YtoefjhdcipgacaaHP6
import Derived.Test.YtoefjhdcipgacaaHP7
import Derived.Test.YtoefjhdcipgacaaHP8
section
namespace Go.Proofs.Ytoefjhdcipgacaa.Hy
open Go.RowKit Go.Proofs.YtoefjhdcipgacaaW.PrintWords Go.Proofs.YtoefjhdcipgacaaW.PrintLast Go.Proofs.YtoefjhdcipgacaaW.PrintMore
open Go.Proofs.Ytoefjhdcipgacaa.PA
attribute [local go_sem] max2_int min2_int max_two min_two
set_option maxHeartbeats 8000000 in
set_option maxRecDepth 100000 in
theorem rnew_bad3 (k : Nat) (s : ByteArray) (A : Option Addr) (c : Nat) (ls : List S63) (left right : Int) (P W : List S39) (code at_ : Int) (w : World) (hl : Kd.C k63 w A ls.length ls) (hlc : ls.length ≤ c) (hck : stanzaref07_Letters.f k ls = some true) (h1 : ¬ left < 1) (h2 : ¬ 24 < left) (h3 : ¬ right < 1) (h4 : ¬ 24 < right) (hpar : stanzaref07_Parse.f k s = some (P, W, code, at_)) (hne : code ≠ 0) :
  Calls Try.prog 27 #[.string s, .slice A ls.length c, .int .i64 left, .int .i64 right] w fun e w' => e = .returned (.tuple #[.agg #[.slice none 0 0, .slice none 0 0, .slice none 0 0, .int .i64 0, .int .i64 0], .int .i64 code, .int .i64 at_]) ∧ Below w.heap.size w w' := by
 have HL := Aside0.mk hl
 have HLc := Aside0.mk hlc
 have HK := Aside0.mk hck
 have HP := Aside0.mk hpar
 clear hl hlc hck hpar
 go_enter Try.func27, Try.ntmps27
 go_upto_region 5 with (first
  | ((with_reducible refine gate_dst (N := 8) rfl ?_); refine box_event ?hg (N := 8) ?hd (cs := #[.slice none 0 0, .slice none 0 0, .slice none 0 0, .int .i64 0, .int .i64 0]) (t := 52) ?hr ?_; (case hd => rfl); (case hg => rfl); (case hr => first | (go_simp; done) | (go_simp; rfl)); intro g8 hg w1 hbox hb; have HB := Aside0.mk hb; have BK8 := Aside0.mk hbox; have GE8 := Aside0.mk (Nat.le_of_eq hg.symm : w.heap.size ≤ g8); clear hb hbox hg)
  | (go_at_call 35; refine (stanzaref07_Letters.calls k A c ls true _ (Kd.C_below HL.out HB.out) HLc.out HK.out).mono ?_; rintro e w2 ⟨rfl, nd, hw2⟩; have hb : Below w1.heap.size w1 w2 := (by rw [hw2]; exact pw_below_drewN (Below.refl _ _) _); replace BK8 := Aside0.mk (blk_below BK8.out hb); replace HB := Aside0.mk (below_step HB.out hb); clear hw2; clear hb))
 go_cut [11, 12, 13] (fun v11 v12 v13 wc => ∃ g11 Ap cp Aw cw, v11 = .pointer (some ⟨g11, 0, none⟩) ∧ v12 = .int .i64 code ∧ v13 = .int .i64 at_ ∧ Aside0 (wc.heap[g11]? = some (.cells #[.slice Ap P.length cp, .slice Aw W.length cw] 50 (0, 0))) ∧ Aside0 (wc.heap[g8]? = some (.cells #[.slice none 0 0, .slice none 0 0, .slice none 0 0, .int .i64 0, .int .i64 0] 52 (0, 0))) ∧ Aside0 (g8 ≠ g11) ∧ Aside0 (Kd.S k39 39 wc w.heap.size (fun _ => True) (.slice Ap P.length cp) P) ∧ Aside0 (Kd.S k39 39 wc w.heap.size (fun _ => True) (.slice Aw W.length cw) W) ∧ Aside0 (Below w.heap.size w wc))
 case first =>
  go_wp2_with (first
  | (go_at_call 43; refine (stanzaref07_Parse.calls k s P W code at_ _ HP.out).mono ?_; rintro e w3 ⟨v0, v1, rfl, hs0, hs1, hb⟩; obtain ⟨Ap, cp, rfl⟩ := Kd.S_slice hs0; obtain ⟨Aw, cw, rfl⟩ := Kd.S_slice hs1; have HS0 := Aside0.mk (Kd.S_lower (Kd.S_mono (ok' := fun _ => True) hs0 (fun _ _ => trivial)) (below_size HB.out)); have HS1 := Aside0.mk (Kd.S_lower (Kd.S_mono (ok' := fun _ => True) hs1 (fun _ _ => trivial)) (below_size HB.out)); replace BK8 := Aside0.mk (blk_below BK8.out hb); replace HB := Aside0.mk (below_step HB.out hb); clear hb hs0 hs1)
  | ((with_reducible refine gate_dst (N := 11) rfl ?_); refine box_event ?hg (N := 11) ?hd (cs := #[.slice none 0 0, .slice none 0 0]) (t := 50) ?hr ?_; (case hd => rfl); (case hg => rfl); (case hr => first | (go_simp; done) | (go_simp; rfl)); intro g11 hg w4 hbox hb; have NB := Aside0.mk (by rw [hg]; exact Nat.ne_of_lt (blk_lt BK8.out) : g8 ≠ g11); replace HS0 := Aside0.mk (Kd.S_below HS0.out hb); replace HS1 := Aside0.mk (Kd.S_below HS1.out hb); replace BK8 := Aside0.mk (blk_below BK8.out hb); have BK11 := Aside0.mk hbox; have GE11 := Aside0.mk (by rw [hg]; exact below_size HB.out : w.heap.size ≤ g11); replace HB := Aside0.mk (below_step HB.out hb); have hdz0 : w4.cell? ⟨g11, 0, none⟩ = some (.slice none 0 0) := (blk_cell BK11.out 0).trans rfl; have hdz1 : w4.cell? ⟨g11, 1, none⟩ = some (.slice none 0 0) := (blk_cell BK11.out 1).trans rfl; have hdf0 := blk_frozen BK11.out 0; have hdf1 := blk_frozen BK11.out 1; clear hb hbox hg))
  go_meet
  case rel =>
   refine ⟨g11, Ap, cp, Aw, cw, rfl, rfl, rfl, ⟨blk_put (cs := #[.slice Ap P.length cp, .slice none 0 0]) (blk_put (cs := #[.slice none 0 0, .slice none 0 0]) BK11.out 0 _ rfl) 1 _ rfl⟩, ⟨blk_far (blk_far BK8.out NB.out _) NB.out _⟩, NB, ⟨?_⟩, ⟨?_⟩, ⟨below_set (below_set HB.out GE11.out) GE11.out⟩⟩
   ·exact Kd.S_far (p := ⟨g11, 1, none⟩) (Kd.S_far (p := ⟨g11, 0, none⟩) (Kd.S_types HS0.out BK11.out (by decide)) (fun _ hk => hk.2) _) (fun _ hk => hk.2) _ |> fun h => Kd.S_mono h (fun _ _ => trivial)
   ·exact Kd.S_far (p := ⟨g11, 1, none⟩) (Kd.S_far (p := ⟨g11, 0, none⟩) (Kd.S_types HS1.out BK11.out (by decide)) (fun _ hk => hk.2) _) (fun _ hk => hk.2) _ |> fun h => Kd.S_mono h (fun _ _ => trivial)
 case rest =>
  obtain ⟨g11, Ap, cp, Aw, cw, rfl, rfl, rfl, BK11, BK8', NB, HS0, HS1, HB'⟩ := hcut
  clear HB BK8
  have HB := HB'
  have BK8 := BK8'
  clear HB' BK8'
  have hcz0 : wc.cell? ⟨g8, 0, none⟩ = some (.slice none 0 0) := (blk_cell BK8.out 0).trans rfl
  have hcz1 : wc.cell? ⟨g8, 1, none⟩ = some (.slice none 0 0) := (blk_cell BK8.out 1).trans rfl
  have hcz2 : wc.cell? ⟨g8, 2, none⟩ = some (.slice none 0 0) := (blk_cell BK8.out 2).trans rfl
  have hcz3 : wc.cell? ⟨g8, 3, none⟩ = some (.int .i64 0) := (blk_cell BK8.out 3).trans rfl
  have hcz4 : wc.cell? ⟨g8, 4, none⟩ = some (.int .i64 0) := (blk_cell BK8.out 4).trans rfl
  have hcf0 := blk_frozen BK8.out 0
  have hcf1 := blk_frozen BK8.out 1
  have hcf2 := blk_frozen BK8.out 2
  have hcf3 := blk_frozen BK8.out 3
  have hcf4 := blk_frozen BK8.out 4
  go_wp2_with fail
  refine bodyPost_ret (results_ctt rfl _ _ g8 52 #[.slice none 0 0, .slice none 0 0, .slice none 0 0, .int .i64 0, .int .i64 0] (0, 0) _ rfl (blk_put (cs := #[.slice none 0 0, .slice none 0 0, .slice none 0 0, .int .i64 0, .int .i64 0]) (blk_put (cs := #[.slice none 0 0, .slice none 0 0, .slice none 0 0, .int .i64 0, .int .i64 0]) (blk_put (cs := #[.slice none 0 0, .slice none 0 0, .slice none 0 0, .int .i64 0, .int .i64 0]) (blk_put (cs := #[.slice none 0 0, .slice none 0 0, .slice none 0 0, .int .i64 0, .int .i64 0]) (blk_put (cs := #[.slice none 0 0, .slice none 0 0, .slice none 0 0, .int .i64 0, .int .i64 0]) (BK8.out) 0 _ rfl) 1 _ rfl) 2 _ rfl) 3 _ rfl) 4 _ rfl) Try.underlying52 rfl (by kernel_rfl)) rfl ?_
  exact ⟨rfl, below_set (below_set (below_set (below_set (below_set (HB.out) GE8.out) GE8.out) GE8.out) GE8.out) GE8.out⟩
set_option maxHeartbeats 8000000 in
set_option maxRecDepth 100000 in
theorem rnew_ok (k : Nat) (s : ByteArray) (A : Option Addr) (c : Nat) (ls : List S63) (left right : Int) (P W : List S39) (at_ : Int) (w : World) (hl : Kd.C k63 w A ls.length ls) (hlc : ls.length ≤ c) (hck : stanzaref07_Letters.f k ls = some true) (h1 : ¬ left < 1) (h2 : ¬ 24 < left) (h3 : ¬ right < 1) (h4 : ¬ 24 < right) (hpar : stanzaref07_Parse.f k s = some (P, W, 0, at_)) :
  Calls Try.prog 27 #[.string s, .slice A ls.length c, .int .i64 left, .int .i64 right] w fun e w' => ∃ A0 c0 A1 c1, e = .returned (.tuple #[.agg #[.slice A0 P.length c0, .slice A1 W.length c1, .slice A ls.length c, .int .i64 left, .int .i64 right], .int .i64 0, .int .i64 0]) ∧ Kd.C k39 w' A0 P.length P ∧ P.length ≤ c0 ∧ Kd.C k39 w' A1 W.length W ∧ W.length ≤ c1 ∧ Below w.heap.size w w' := by
 have HL := Aside0.mk hl
 have HLc := Aside0.mk hlc
 have HK := Aside0.mk hck
 have HP := Aside0.mk hpar
 clear hl hlc hck hpar
 go_enter Try.func27, Try.ntmps27
 go_upto_region 5 with (first
  | ((with_reducible refine gate_dst (N := 8) rfl ?_); refine box_event ?hg (N := 8) ?hd (cs := #[.slice none 0 0, .slice none 0 0, .slice none 0 0, .int .i64 0, .int .i64 0]) (t := 52) ?hr ?_; (case hd => rfl); (case hg => rfl); (case hr => first | (go_simp; done) | (go_simp; rfl)); intro g8 hg w1 hbox hb; have HB := Aside0.mk hb; have BK8 := Aside0.mk hbox; have GE8 := Aside0.mk (Nat.le_of_eq hg.symm : w.heap.size ≤ g8); clear hb hbox hg)
  | (go_at_call 35; refine (stanzaref07_Letters.calls k A c ls true _ (Kd.C_below HL.out HB.out) HLc.out HK.out).mono ?_; rintro e w2 ⟨rfl, nd, hw2⟩; have hb : Below w1.heap.size w1 w2 := (by rw [hw2]; exact pw_below_drewN (Below.refl _ _) _); replace BK8 := Aside0.mk (blk_below BK8.out hb); replace HB := Aside0.mk (below_step HB.out hb); clear hw2; clear hb))
 go_cut [11, 12, 13] (fun v11 v12 v13 wc => ∃ g11 Ap cp Aw cw, v11 = .pointer (some ⟨g11, 0, none⟩) ∧ v12 = .int .i64 0 ∧ v13 = .int .i64 at_ ∧ Aside0 (wc.heap[g11]? = some (.cells #[.slice Ap P.length cp, .slice Aw W.length cw] 50 (0, 0))) ∧ Aside0 (wc.heap[g8]? = some (.cells #[.slice none 0 0, .slice none 0 0, .slice none 0 0, .int .i64 0, .int .i64 0] 52 (0, 0))) ∧ Aside0 (g8 ≠ g11) ∧ Aside0 (Kd.S k39 39 wc w.heap.size (fun _ => True) (.slice Ap P.length cp) P) ∧ Aside0 (Kd.S k39 39 wc w.heap.size (fun _ => True) (.slice Aw W.length cw) W) ∧ Aside0 (Below w.heap.size w wc))
 case first =>
  go_wp2_with (first
  | (go_at_call 43; refine (stanzaref07_Parse.calls k s P W 0 at_ _ HP.out).mono ?_; rintro e w3 ⟨v0, v1, rfl, hs0, hs1, hb⟩; obtain ⟨Ap, cp, rfl⟩ := Kd.S_slice hs0; obtain ⟨Aw, cw, rfl⟩ := Kd.S_slice hs1; have HS0 := Aside0.mk (Kd.S_lower (Kd.S_mono (ok' := fun _ => True) hs0 (fun _ _ => trivial)) (below_size HB.out)); have HS1 := Aside0.mk (Kd.S_lower (Kd.S_mono (ok' := fun _ => True) hs1 (fun _ _ => trivial)) (below_size HB.out)); replace BK8 := Aside0.mk (blk_below BK8.out hb); replace HB := Aside0.mk (below_step HB.out hb); clear hb hs0 hs1)
  | ((with_reducible refine gate_dst (N := 11) rfl ?_); refine box_event ?hg (N := 11) ?hd (cs := #[.slice none 0 0, .slice none 0 0]) (t := 50) ?hr ?_; (case hd => rfl); (case hg => rfl); (case hr => first | (go_simp; done) | (go_simp; rfl)); intro g11 hg w4 hbox hb; have NB := Aside0.mk (by rw [hg]; exact Nat.ne_of_lt (blk_lt BK8.out) : g8 ≠ g11); replace HS0 := Aside0.mk (Kd.S_below HS0.out hb); replace HS1 := Aside0.mk (Kd.S_below HS1.out hb); replace BK8 := Aside0.mk (blk_below BK8.out hb); have BK11 := Aside0.mk hbox; have GE11 := Aside0.mk (by rw [hg]; exact below_size HB.out : w.heap.size ≤ g11); replace HB := Aside0.mk (below_step HB.out hb); have hdz0 : w4.cell? ⟨g11, 0, none⟩ = some (.slice none 0 0) := (blk_cell BK11.out 0).trans rfl; have hdz1 : w4.cell? ⟨g11, 1, none⟩ = some (.slice none 0 0) := (blk_cell BK11.out 1).trans rfl; have hdf0 := blk_frozen BK11.out 0; have hdf1 := blk_frozen BK11.out 1; clear hb hbox hg))
  go_meet
  case rel =>
   refine ⟨g11, Ap, cp, Aw, cw, rfl, rfl, rfl, ⟨blk_put (cs := #[.slice Ap P.length cp, .slice none 0 0]) (blk_put (cs := #[.slice none 0 0, .slice none 0 0]) BK11.out 0 _ rfl) 1 _ rfl⟩, ⟨blk_far (blk_far BK8.out NB.out _) NB.out _⟩, NB, ⟨?_⟩, ⟨?_⟩, ⟨below_set (below_set HB.out GE11.out) GE11.out⟩⟩
   ·exact Kd.S_far (p := ⟨g11, 1, none⟩) (Kd.S_far (p := ⟨g11, 0, none⟩) (Kd.S_types HS0.out BK11.out (by decide)) (fun _ hk => hk.2) _) (fun _ hk => hk.2) _ |> fun h => Kd.S_mono h (fun _ _ => trivial)
   ·exact Kd.S_far (p := ⟨g11, 1, none⟩) (Kd.S_far (p := ⟨g11, 0, none⟩) (Kd.S_types HS1.out BK11.out (by decide)) (fun _ hk => hk.2) _) (fun _ hk => hk.2) _ |> fun h => Kd.S_mono h (fun _ _ => trivial)
 case rest =>
  obtain ⟨g11, Ap, cp, Aw, cw, rfl, rfl, rfl, BK11, BK8', NB, HS0, HS1, HB'⟩ := hcut
  clear HB BK8
  have HB := HB'
  have BK8 := BK8'
  clear HB' BK8'
  have hcz0 : wc.cell? ⟨g8, 0, none⟩ = some (.slice none 0 0) := (blk_cell BK8.out 0).trans rfl
  have hcz1 : wc.cell? ⟨g8, 1, none⟩ = some (.slice none 0 0) := (blk_cell BK8.out 1).trans rfl
  have hcz2 : wc.cell? ⟨g8, 2, none⟩ = some (.slice none 0 0) := (blk_cell BK8.out 2).trans rfl
  have hcz3 : wc.cell? ⟨g8, 3, none⟩ = some (.int .i64 0) := (blk_cell BK8.out 3).trans rfl
  have hcz4 : wc.cell? ⟨g8, 4, none⟩ = some (.int .i64 0) := (blk_cell BK8.out 4).trans rfl
  have hcf0 := blk_frozen BK8.out 0
  have hcf1 := blk_frozen BK8.out 1
  have hcf2 := blk_frozen BK8.out 2
  have hcf3 := blk_frozen BK8.out 3
  have hcf4 := blk_frozen BK8.out 4
  have hdz0 : wc.cell? ⟨g11, 0, none⟩ = some (.slice Ap P.length cp) := (blk_cell BK11.out 0).trans rfl
  have hdz1 : wc.cell? ⟨g11, 1, none⟩ = some (.slice Aw W.length cw) := (blk_cell BK11.out 1).trans rfl
  have hdf0 := blk_frozen BK11.out 0
  have hdf1 := blk_frozen BK11.out 1
  go_wp2_with fail
  refine bodyPost_ret (results_ctt rfl _ _ g8 52 #[.slice Ap P.length cp, .slice Aw W.length cw, .slice A ls.length c, .int .i64 left, .int .i64 right] (0, 0) _ rfl (blk_put (cs := #[.slice Ap P.length cp, .slice Aw W.length cw, .slice A ls.length c, .int .i64 left, .int .i64 0]) (blk_put (cs := #[.slice Ap P.length cp, .slice Aw W.length cw, .slice A ls.length c, .int .i64 0, .int .i64 0]) (blk_put (cs := #[.slice Ap P.length cp, .slice Aw W.length cw, .slice none 0 0, .int .i64 0, .int .i64 0]) (blk_put (cs := #[.slice Ap P.length cp, .slice none 0 0, .slice none 0 0, .int .i64 0, .int .i64 0]) (blk_put (cs := #[.slice none 0 0, .slice none 0 0, .slice none 0 0, .int .i64 0, .int .i64 0]) (BK8.out) 0 _ rfl) 1 _ rfl) 2 _ rfl) 3 _ rfl) 4 _ rfl) Try.underlying52 rfl (by kernel_rfl)) rfl ?_
  exact ⟨Ap, cp, Aw, cw, rfl, (Kd.S_reads' (Kd.S_far (p := ⟨g8, 4, none⟩) (Kd.S_far (p := ⟨g8, 3, none⟩) (Kd.S_far (p := ⟨g8, 2, none⟩) (Kd.S_far (p := ⟨g8, 1, none⟩) (Kd.S_far (p := ⟨g8, 0, none⟩) (Kd.S_types HS0.out BK8.out (by decide)) (fun _ hk => hk.2) (.slice Ap P.length cp)) (fun _ hk => hk.2) (.slice Aw W.length cw)) (fun _ hk => hk.2) (.slice A ls.length c)) (fun _ hk => hk.2) (.int .i64 left)) (fun _ hk => hk.2) (.int .i64 right))).2.2, (Kd.S_reads' HS0.out).2.1, (Kd.S_reads' (Kd.S_far (p := ⟨g8, 4, none⟩) (Kd.S_far (p := ⟨g8, 3, none⟩) (Kd.S_far (p := ⟨g8, 2, none⟩) (Kd.S_far (p := ⟨g8, 1, none⟩) (Kd.S_far (p := ⟨g8, 0, none⟩) (Kd.S_types HS1.out BK8.out (by decide)) (fun _ hk => hk.2) (.slice Ap P.length cp)) (fun _ hk => hk.2) (.slice Aw W.length cw)) (fun _ hk => hk.2) (.slice A ls.length c)) (fun _ hk => hk.2) (.int .i64 left)) (fun _ hk => hk.2) (.int .i64 right))).2.2, (Kd.S_reads' HS1.out).2.1, below_set (below_set (below_set (below_set (below_set (HB.out) GE8.out) GE8.out) GE8.out) GE8.out) GE8.out⟩
end Go.Proofs.Ytoefjhdcipgacaa.Hy
end
