/-
 Part 20 of what the law HyphPoints rests on: contracts of the functions that it calls, and plain laws of what they compute.
-/
import Derived.Deep.RegionWith
import Derived.BigRegion
import Derived.Test.YtoefjhdcipgacaaHP6
import Derived.Test.YtoefjhdcipgacaaHP7
import Derived.Test.YtoefjhdcipgacaaHP9
import Derived.Test.YtoefjhdcipgacaaHP15
import Derived.Test.YtoefjhdcipgacaaHP16
import Derived.Test.YtoefjhdcipgacaaHP17
import Derived.Test.YtoefjhdcipgacaaHP18
import Derived.Test.YtoefjhdcipgacaaHP19
section
namespace Go.Proofs.Ytoefjhdcipgacaa.Hy
open Go.RowKit Go.Proofs.YtoefjhdcipgacaaW.PrintWords Go.Proofs.YtoefjhdcipgacaaW.PrintLast Go.Proofs.YtoefjhdcipgacaaW.PrintMore
open Go.Proofs.Ytoefjhdcipgacaa.PA
attribute [local go_sem] max2_int min2_int max_two min_two
set_option maxHeartbeats 8000000 in
set_option maxRecDepth 100000 in
theorem new_bad3 (k : Nat) (s : ByteArray) (A : Option Addr) (c : Nat) (ls : List S63) (left right : Int) (P W : List S39) (code at_ : Int) (w : World) (hl : Kd.C k63 w A ls.length ls) (hlc : ls.length ≤ c) (hck : hyph_Check.f k ls = some true)
  (h1 : 1 ≤ left) (h2 : 1 ≤ right) (h3 : left ≤ 24) (h4 : right ≤ 24) (hpar : pats_Parse.f k s = some (P, W, code, at_)) (hne : code ≠ 0) :
  Calls Try.prog 26 #[.string s, .slice A ls.length c, .int .i64 left, .int .i64 right] w fun e w' => e = .returned (.tuple #[.pointer none, .agg #[.int .i64 code, .int .i64 at_]]) ∧ Below w.heap.size w w' := by
 have HL := Aside0.mk hl
 have HLc := Aside0.mk hlc
 have HK := Aside0.mk hck
 have HP := Aside0.mk hpar
 clear hl hlc hck hpar
 go_enter Try.func26, Try.ntmps26
 go_upto_region 5 with (first
  | ((with_reducible refine gate_dst (N := 9) rfl ?_); refine box_event ?hg (N := 9) ?hd (cs := #[.int .i64 0, .int .i64 0]) (t := 46) ?hr ?_; (case hd => rfl); (case hg => rfl); (case hr => first | (go_simp; done) | (go_simp; rfl)); intro g9 hg w1 hbox hb; have HB := Aside0.mk hb; have BK9 := Aside0.mk hbox; have GE9 := Aside0.mk (Nat.le_of_eq hg.symm : w.heap.size ≤ g9); clear hb hbox hg)
  | (go_at_call 34; refine (hyph_Check.calls k A c ls true _ (Kd.C_below HL.out HB.out) HLc.out HK.out).mono ?_; rintro e w2 ⟨rfl, hb⟩; replace BK9 := Aside0.mk (blk_below BK9.out hb); replace HB := Aside0.mk (below_step HB.out hb); clear hb))
 go_cut [10, 11] (fun v10 v11 wc => ∃ g11, v11 = .pointer (some ⟨g11, 0, none⟩) ∧ Aside0 (wc.heap[g11]? = some (.cells #[.int .i64 code, .int .i64 at_] 46 (0, 0))) ∧ Aside0 (wc.heap[g9]? = some (.cells #[.int .i64 0, .int .i64 0] 46 (0, 0))) ∧ Aside0 (Below w.heap.size w wc))
 case first =>
  go_wp2_with (first
  | (go_at_call 41; refine (pats_Parse.calls k s P W code at_ _ HP.out).mono ?_; rintro e w3 ⟨v0, v1, rfl, hs0, hs1, hb⟩; obtain ⟨Ap, cp, rfl⟩ := Kd.S_slice hs0; obtain ⟨Aw, cw, rfl⟩ := Kd.S_slice hs1; have HS0 := Aside0.mk (Kd.S_lower (Kd.S_mono (ok' := fun _ => True) hs0 (fun _ _ => trivial)) (below_size HB.out)); have HS1 := Aside0.mk (Kd.S_lower (Kd.S_mono (ok' := fun _ => True) hs1 (fun _ _ => trivial)) (below_size HB.out)); replace BK9 := Aside0.mk (blk_below BK9.out hb); replace HB := Aside0.mk (below_step HB.out hb); clear hb hs0 hs1)
  | ((with_reducible refine gate_dst (N := 10) rfl ?_); refine box_event ?hg (N := 10) ?hd (cs := #[.slice none 0 0, .slice none 0 0]) (t := 50) ?hr ?_; (case hd => rfl); (case hg => rfl); (case hr => first | (go_simp; done) | (go_simp; rfl)); intro g10 hg w4 hbox hb; replace HS0 := Aside0.mk (Kd.S_below HS0.out hb); replace HS1 := Aside0.mk (Kd.S_below HS1.out hb); replace BK9 := Aside0.mk (blk_below BK9.out hb); have BK10 := Aside0.mk hbox; have GE10 := Aside0.mk (by rw [hg]; exact below_size HB.out : w.heap.size ≤ g10); replace HB := Aside0.mk (below_step HB.out hb); clear hb hbox hg)
  | ((with_reducible refine gate_dst (N := 11) rfl ?_); refine box_event ?hg (N := 11) ?hd (cs := #[.int .i64 0, .int .i64 0]) (t := 46) ?hr ?_; (case hd => rfl); (case hg => rfl); (case hr => first | (go_simp; done) | (go_simp; rfl)); intro g11 hg w5 hbox hb; have NB := Aside0.mk (by rw [hg]; exact Nat.ne_of_lt (blk_lt BK9.out) : g9 ≠ g11); replace HS0 := Aside0.mk (Kd.S_below HS0.out hb); replace HS1 := Aside0.mk (Kd.S_below HS1.out hb); replace BK9 := Aside0.mk (blk_below BK9.out hb); replace BK10 := Aside0.mk (blk_below BK10.out hb); have BK11 := Aside0.mk hbox; have GE11 := Aside0.mk (by rw [hg]; exact below_size HB.out : w.heap.size ≤ g11); replace HB := Aside0.mk (below_step HB.out hb); have hcz0 : w5.cell? ⟨g10, 0, none⟩ = some (.slice none 0 0) := (blk_cell BK10.out 0).trans rfl; have hcz1 : w5.cell? ⟨g10, 1, none⟩ = some (.slice none 0 0) := (blk_cell BK10.out 1).trans rfl; have hfz0 := blk_frozen BK10.out 0; have hfz1 := blk_frozen BK10.out 1; have hdz0 : w5.cell? ⟨g11, 0, none⟩ = some (.int .i64 0) := (blk_cell BK11.out 0).trans rfl; have hdz1 : w5.cell? ⟨g11, 1, none⟩ = some (.int .i64 0) := (blk_cell BK11.out 1).trans rfl; have hez0 := blk_frozen BK11.out 0; have hez1 := blk_frozen BK11.out 1; have hnb := blk_ne BK10.out BK11.out (by decide); have hnc := Ne.symm hnb; clear hb hbox hg))
  go_meet
  case rel =>
   refine ⟨g11, rfl, ⟨?_⟩, ⟨?_⟩, ⟨?_⟩⟩
   ·refine blk_put (cs := #[.int .i64 code, .int .i64 0]) (blk_put (cs := #[.int .i64 0, .int .i64 0]) (blk_far (blk_far BK11.out hnc _) hnc _) 0 _ rfl) 1 _ rfl
   ·refine blk_far (blk_far (blk_far (blk_far BK9.out ?_ _) ?_ _) NB.out _) NB.out _ <;> exact Ne.symm (blk_ne BK10.out BK9.out (by decide))
   ·exact below_set (below_set (below_set (below_set HB.out GE10.out) GE10.out) GE11.out) GE11.out
 case rest =>
  obtain ⟨g11, rfl, BK11, BK9', HB'⟩ := hcut
  clear HB BK9
  have HB := HB'
  have BK9 := BK9'
  clear HB' BK9'
  have hdz0 : wc.cell? ⟨g11, 0, none⟩ = some (.int .i64 code) := (blk_cell BK11.out 0).trans rfl
  have hdz1 : wc.cell? ⟨g11, 1, none⟩ = some (.int .i64 at_) := (blk_cell BK11.out 1).trans rfl
  have hcz0 : wc.cell? ⟨g9, 0, none⟩ = some (.int .i64 0) := (blk_cell BK9.out 0).trans rfl
  have hcz1 : wc.cell? ⟨g9, 1, none⟩ = some (.int .i64 0) := (blk_cell BK9.out 1).trans rfl
  have hfz0 := blk_frozen BK9.out 0
  have hfz1 := blk_frozen BK9.out 1
  go_upto_region 7 with fail
  go_region
  all_goals go_wp2_with fail
  refine bodyPost_ret (results_tc rfl _ _ g9 46 #[.int .i64 code, .int .i64 at_] (0, 0) _ rfl (blk_drew (blk_put (cs := #[.int .i64 code, .int .i64 0]) (blk_put (cs := #[.int .i64 0, .int .i64 0]) BK9.out 0 _ rfl) 1 _ rfl)) Try.underlying46 rfl (by kernel_rfl)) rfl ?_
  exact ⟨rfl, below_drew (below_set (below_set HB.out GE9.out) GE9.out)⟩
end Go.Proofs.Ytoefjhdcipgacaa.Hy
end
section
namespace Go.Proofs.Ytoefjhdcipgacaa.Hy
open Go.RowKit Go.Proofs.YtoefjhdcipgacaaW.PrintWords Go.Proofs.YtoefjhdcipgacaaW.PrintLast Go.Proofs.YtoefjhdcipgacaaW.PrintMore
open Go.Proofs.Ytoefjhdcipgacaa.PA
attribute [local go_sem] max2_int min2_int max_two min_two
theorem _root_.Go.Proofs.Ytoefjhdcipgacaa.Tr.TrieAt.set {w : World} {base bt g : Nat} {T : Tr.TM} (h : Tr.TrieAt w base bt T) (hg : g < base) (j : Nat) (u : Value) : Tr.TrieAt (w.setCell ⟨g, j, none⟩ u) base bt T := by
 obtain ⟨bn, cap, K, xs, ms, vs, hK, h⟩ := h
 exact ⟨bn, cap, K, xs, ms, vs, hK, h.move (fun k hk _ => Below.heap_setCell w ⟨g, j, none⟩ u k (by show k ≠ g; omega))⟩
set_option maxHeartbeats 8000000 in
set_option maxRecDepth 100000 in
theorem new_ok (k : Nat) (s : ByteArray) (A : Option Addr) (c : Nat) (ls : List S63) (left right : Int) (P W : List S39) (w : World) (hl : Kd.C k63 w A ls.length ls) (hlc : ls.length ≤ c) (h8 : ls.length ≤ 1000000) (hck : hyph_Check.f k ls = some true)
  (h1 : 1 ≤ left) (h2 : 1 ≤ right) (h3 : left ≤ 24) (h4 : right ≤ 24) (hpar : pats_Parse.f k s = some (P, W, 0, 0)) (hfit : Tr.Fit P) :
  Calls Try.prog 26 #[.string s, .slice A ls.length c, .int .i64 left, .int .i64 right] w fun e w' => ∃ b La Lc bt base Wa Wc, e = .returned (.tuple #[.pointer (some ⟨b, 0, none⟩), .agg #[.int .i64 0, .int .i64 0]]) ∧ HyphAt w' b ls (Tr.make (P.map Tr.pq)) W left right La Lc bt base Wa Wc ∧ Below w.heap.size w w' := by
 have HL := Aside0.mk hl
 have HLc := Aside0.mk hlc
 have HL8 := Aside0.mk h8
 have HK := Aside0.mk hck
 have HP := Aside0.mk hpar
 have HF := Aside0.mk hfit
 clear hl hlc h8 hck hpar hfit
 go_enter Try.func26, Try.ntmps26
 go_upto_region 5 with (first
  | ((with_reducible refine gate_dst (N := 9) rfl ?_); refine box_event ?hg (N := 9) ?hd (cs := #[.int .i64 0, .int .i64 0]) (t := 46) ?hr ?_; (case hd => rfl); (case hg => rfl); (case hr => first | (go_simp; done) | (go_simp; rfl)); intro g9 hg w1 hbox hb; have HB := Aside0.mk hb; have BK9 := Aside0.mk hbox; have GE9 := Aside0.mk (Nat.le_of_eq hg.symm : w.heap.size ≤ g9); clear hb hbox hg)
  | (go_at_call 34; refine (hyph_Check.calls k A c ls true _ (Kd.C_below HL.out HB.out) HLc.out HK.out).mono ?_; rintro e w2 ⟨rfl, hb⟩; replace BK9 := Aside0.mk (blk_below BK9.out hb); replace HB := Aside0.mk (below_step HB.out hb); clear hb))
 go_cut [10, 11] (fun v10 v11 wc => ∃ g10 g11 Ap cp Aw cw, v10 = .pointer (some ⟨g10, 0, none⟩) ∧ v11 = .pointer (some ⟨g11, 0, none⟩) ∧ Aside0 (wc.heap[g10]? = some (.cells #[.slice Ap P.length cp, .slice Aw W.length cw] 50 (0, 0))) ∧ Aside0 (wc.heap[g11]? = some (.cells #[.int .i64 0, .int .i64 0] 46 (0, 0))) ∧ Aside0 (wc.heap[g9]? = some (.cells #[.int .i64 0, .int .i64 0] 46 (0, 0))) ∧ Aside0 (Kd.S k39 39 wc w.heap.size (fun _ => True) (.slice Ap P.length cp) P) ∧ Aside0 (Kd.S k39 39 wc w.heap.size (fun _ => True) (.slice Aw W.length cw) W) ∧ Aside0 (Below w.heap.size w wc))
 case first =>
  go_wp2_with (first
  | (go_at_call 41; refine (pats_Parse.calls k s P W 0 0 _ HP.out).mono ?_; rintro e w3 ⟨v0, v1, rfl, hs0, hs1, hb⟩; obtain ⟨Ap, cp, rfl⟩ := Kd.S_slice hs0; obtain ⟨Aw, cw, rfl⟩ := Kd.S_slice hs1; have HS0 := Aside0.mk (Kd.S_lower (Kd.S_mono (ok' := fun _ => True) hs0 (fun _ _ => trivial)) (below_size HB.out)); have HS1 := Aside0.mk (Kd.S_lower (Kd.S_mono (ok' := fun _ => True) hs1 (fun _ _ => trivial)) (below_size HB.out)); replace BK9 := Aside0.mk (blk_below BK9.out hb); replace HB := Aside0.mk (below_step HB.out hb); clear hb hs0 hs1)
  | ((with_reducible refine gate_dst (N := 10) rfl ?_); refine box_event ?hg (N := 10) ?hd (cs := #[.slice none 0 0, .slice none 0 0]) (t := 50) ?hr ?_; (case hd => rfl); (case hg => rfl); (case hr => first | (go_simp; done) | (go_simp; rfl)); intro g10 hg w4 hbox hb; replace HS0 := Aside0.mk (Kd.S_below HS0.out hb); replace HS1 := Aside0.mk (Kd.S_below HS1.out hb); replace BK9 := Aside0.mk (blk_below BK9.out hb); have BK10 := Aside0.mk hbox; have GE10 := Aside0.mk (by rw [hg]; exact below_size HB.out : w.heap.size ≤ g10); replace HB := Aside0.mk (below_step HB.out hb); clear hb hbox hg)
  | ((with_reducible refine gate_dst (N := 11) rfl ?_); refine box_event ?hg (N := 11) ?hd (cs := #[.int .i64 0, .int .i64 0]) (t := 46) ?hr ?_; (case hd => rfl); (case hg => rfl); (case hr => first | (go_simp; done) | (go_simp; rfl)); intro g11 hg w5 hbox hb; have NB := Aside0.mk (by rw [hg]; exact Nat.ne_of_lt (blk_lt BK9.out) : g9 ≠ g11); replace HS0 := Aside0.mk (Kd.S_below HS0.out hb); replace HS1 := Aside0.mk (Kd.S_below HS1.out hb); replace BK9 := Aside0.mk (blk_below BK9.out hb); replace BK10 := Aside0.mk (blk_below BK10.out hb); have BK11 := Aside0.mk hbox; have GE11 := Aside0.mk (by rw [hg]; exact below_size HB.out : w.heap.size ≤ g11); replace HB := Aside0.mk (below_step HB.out hb); have hcz0 : w5.cell? ⟨g10, 0, none⟩ = some (.slice none 0 0) := (blk_cell BK10.out 0).trans rfl; have hcz1 : w5.cell? ⟨g10, 1, none⟩ = some (.slice none 0 0) := (blk_cell BK10.out 1).trans rfl; have hfz0 := blk_frozen BK10.out 0; have hfz1 := blk_frozen BK10.out 1; have hdz0 : w5.cell? ⟨g11, 0, none⟩ = some (.int .i64 0) := (blk_cell BK11.out 0).trans rfl; have hdz1 : w5.cell? ⟨g11, 1, none⟩ = some (.int .i64 0) := (blk_cell BK11.out 1).trans rfl; have hez0 := blk_frozen BK11.out 0; have hez1 := blk_frozen BK11.out 1; have hnb := blk_ne BK10.out BK11.out (by decide); have hnc := Ne.symm hnb; clear hb hbox hg))
  go_meet
  case rel =>
   refine ⟨g10, g11, Ap, cp, Aw, cw, rfl, rfl, ⟨?_⟩, ⟨?_⟩, ⟨?_⟩, ⟨?_⟩, ⟨?_⟩, ⟨?_⟩⟩
   ·refine blk_far (blk_far (blk_put (cs := #[.slice Ap P.length cp, .slice none 0 0]) (blk_put (cs := #[.slice none 0 0, .slice none 0 0]) BK10.out 0 _ rfl) 1 _ rfl) hnb _) hnb _
   ·refine blk_put (cs := #[.int .i64 0, .int .i64 0]) (blk_put (cs := #[.int .i64 0, .int .i64 0]) (blk_far (blk_far BK11.out hnc _) hnc _) 0 _ rfl) 1 _ rfl
   ·refine blk_far (blk_far (blk_far (blk_far BK9.out ?_ _) ?_ _) NB.out _) NB.out _ <;> exact Ne.symm (blk_ne BK10.out BK9.out (by decide))
   ·exact Kd.S_far (p := ⟨g11, 1, none⟩) (Kd.S_far (p := ⟨g11, 0, none⟩) (Kd.S_far (p := ⟨g10, 1, none⟩) (Kd.S_far (p := ⟨g10, 0, none⟩) (Kd.S_types (Kd.S_types HS0.out BK10.out (by decide)) BK11.out (by decide)) (fun _ hk => hk.1.2) _) (fun _ hk => hk.1.2) _) (fun _ hk => hk.2) _) (fun _ hk => hk.2) _ |> fun h => Kd.S_mono h (fun _ _ => trivial)
   ·exact Kd.S_far (p := ⟨g11, 1, none⟩) (Kd.S_far (p := ⟨g11, 0, none⟩) (Kd.S_far (p := ⟨g10, 1, none⟩) (Kd.S_far (p := ⟨g10, 0, none⟩) (Kd.S_types (Kd.S_types HS1.out BK10.out (by decide)) BK11.out (by decide)) (fun _ hk => hk.1.2) _) (fun _ hk => hk.1.2) _) (fun _ hk => hk.2) _) (fun _ hk => hk.2) _ |> fun h => Kd.S_mono h (fun _ _ => trivial)
   ·exact below_set (below_set (below_set (below_set HB.out GE10.out) GE10.out) GE11.out) GE11.out
 case rest =>
  obtain ⟨g10, g11, Ap, cp, Aw, cw, rfl, rfl, BK10, BK11, BK9', HS0, HS1, HB'⟩ := hcut
  clear HB BK9
  have HB := HB'
  have BK9 := BK9'
  clear HB' BK9'
  have hdz0 : wc.cell? ⟨g11, 0, none⟩ = some (.int .i64 0) := (blk_cell BK11.out 0).trans rfl
  have hdz1 : wc.cell? ⟨g11, 1, none⟩ = some (.int .i64 0) := (blk_cell BK11.out 1).trans rfl
  go_upto_region 8 with fail
  clear hdz0 hdz1
  have hD := below_drew (Below.refl wc.heap.size wc)
  have q0 : wc.cell? ⟨g10, 0, none⟩ = some (.slice Ap P.length cp) := (blk_cell BK10.out 0).trans rfl
  have q1 : wc.cell? ⟨g10, 1, none⟩ = some (.slice Aw W.length cw) := (blk_cell BK10.out 1).trans rfl
  replace BK9 := Aside0.mk (blk_below BK9.out hD)
  replace BK10 := Aside0.mk (blk_below BK10.out hD)
  replace HS0 := Aside0.mk (Kd.S_drew HS0.out)
  replace HS1 := Aside0.mk (Kd.S_drew HS1.out)
  replace HB := Aside0.mk (below_drew HB.out)
  clear hD BK11
  go_region_with (first
   | (go_at_call 42; refine Calls.mono (clone_calls ls A c _ (Kd.C_below HL.out HB.out) HL8.out) ?_; rintro e w6 ⟨v6, rfl, hr, hb⟩; obtain ⟨La, Lc, rfl⟩ := Kd.R_slice hr; have HR := Aside0.mk (Kd.R_lower hr (below_size HB.out)); replace BK9 := Aside0.mk (blk_below BK9.out hb); replace BK10 := Aside0.mk (blk_below BK10.out hb); replace HS0 := Aside0.mk (Kd.S_below HS0.out hb); replace HS1 := Aside0.mk (Kd.S_below HS1.out hb); replace HB := Aside0.mk (below_step HB.out hb); have q2 : w6.cell? ⟨g10, 0, none⟩ = some (.slice Ap P.length cp) := (blk_cell BK10.out 0).trans rfl; have q3 : w6.cell? ⟨g10, 1, none⟩ = some (.slice Aw W.length cw) := (blk_cell BK10.out 1).trans rfl; clear hb hr)
   | (go_at_call 19; refine Calls.mono (Tr.make_fit P Ap cp _ (Kd.S_reads' HS0.out).2.2 (Kd.S_reads' HS0.out).2.1 HF.out) ?_; rintro e w7 ⟨bt, rfl, hT, hb⟩; have HT := Aside0.mk hT; have NB9 := Aside0.mk (blk_lt BK9.out); replace BK9 := Aside0.mk (blk_below BK9.out hb); replace BK10 := Aside0.mk (blk_below BK10.out hb); replace HS0 := Aside0.mk (Kd.S_below HS0.out hb); replace HS1 := Aside0.mk (Kd.S_below HS1.out hb); replace HR := Aside0.mk (Kd.R_below HR.out hb); replace HB := Aside0.mk (below_step HB.out hb); have q4 : w7.cell? ⟨g10, 0, none⟩ = some (.slice Ap P.length cp) := (blk_cell BK10.out 0).trans rfl; have q5 : w7.cell? ⟨g10, 1, none⟩ = some (.slice Aw W.length cw) := (blk_cell BK10.out 1).trans rfl; have ha := blk_alloc BK9.out (.cells #[.slice La ls.length Lc, .pointer (some ⟨bt, 0, none⟩), .slice Aw W.length cw, .int .i64 left, .int .i64 right] 95); have hcz0 : (w7.alloc (.cells #[.slice La ls.length Lc, .pointer (some ⟨bt, 0, none⟩), .slice Aw W.length cw, .int .i64 left, .int .i64 right] 95)).cell? ⟨g9, 0, none⟩ = some (.int .i64 0) := (blk_cell ha 0).trans rfl; have hcz1 : (w7.alloc (.cells #[.slice La ls.length Lc, .pointer (some ⟨bt, 0, none⟩), .slice Aw W.length cw, .int .i64 left, .int .i64 right] 95)).cell? ⟨g9, 1, none⟩ = some (.int .i64 0) := (blk_cell ha 1).trans rfl; have hfz0 := blk_frozen ha 0; have hfz1 := blk_frozen ha 1; clear ha; clear hb hT))
  all_goals go_wp2_with fail
  all_goals
   have ha := blk_alloc BK9.out (.cells #[.slice La ls.length Lc, .pointer (some ⟨bt, 0, none⟩), .slice Aw W.length cw, .int .i64 left, .int .i64 right] 95)
   have ne : w7.heap.size ≠ g9 := Nat.ne_of_gt (blk_lt BK9.out)
   refine bodyPost_ret (results_tc rfl _ _ g9 46 #[.int .i64 0, .int .i64 0] (0, 0) _ rfl (blk_put (cs := #[.int .i64 0, .int .i64 0]) (blk_put (cs := #[.int .i64 0, .int .i64 0]) ha 0 _ rfl) 1 _ rfl) Try.underlying46 rfl (by kernel_rfl)) rfl ?_
   have x1 := blk_far (blk_far (blk_new w7 (.cells #[.slice La ls.length Lc, .pointer (some ⟨bt, 0, none⟩), .slice Aw W.length cw, .int .i64 left, .int .i64 right] 95)) ne (p := ⟨g9, 0, none⟩) (.int .i64 0)) ne (p := ⟨g9, 1, none⟩) (.int .i64 0)
   have x2 := (Kd.R_reads' (Kd.R_far (p := ⟨g9, 1, none⟩) (Kd.R_far (p := ⟨g9, 0, none⟩) (Kd.R_types (Kd.R_alloc HR.out _) ha (by decide)) (fun _ hk => hk.2) (.int .i64 0)) (fun _ hk => hk.2) (.int .i64 0))).2.2
   have x3 := ((HT.out.below (below_alloc (Below.refl _ _) (.cells #[.slice La ls.length Lc, .pointer (some ⟨bt, 0, none⟩), .slice Aw W.length cw, .int .i64 left, .int .i64 right] 95))).set NB9.out 0 (.int .i64 0)).set NB9.out 1 (.int .i64 0)
   have x4 := (Kd.S_reads' (Kd.S_far (p := ⟨g9, 1, none⟩) (Kd.S_far (p := ⟨g9, 0, none⟩) (Kd.S_types (Kd.S_alloc HS1.out _) ha (by decide)) (fun _ hk => hk.2) (.int .i64 0)) (fun _ hk => hk.2) (.int .i64 0))).2.2
   exact ⟨w7.heap.size, La, Lc, bt, _, Aw, cw, rfl, ⟨x1, x2, x3, x4, (Kd.S_reads' HS1.out).2.1⟩, below_set (below_set (below_alloc HB.out _) GE9.out) GE9.out⟩
end Go.Proofs.Ytoefjhdcipgacaa.Hy
end
section
namespace Go.Proofs.Ytoefjhdcipgacaa.Hy
open Go.RowKit Go.Proofs.YtoefjhdcipgacaaW.PrintWords Go.Proofs.YtoefjhdcipgacaaW.PrintLast Go.Proofs.YtoefjhdcipgacaaW.PrintMore
open Go.Proofs.Ytoefjhdcipgacaa.PA
attribute [local go_sem] max2_int min2_int max_two min_two
set_option linter.unusedSimpArgs false
set_option linter.unusedVariables false
def awP : List S39 := [⟨[104, 121, 112], [0, 0, 1, 0]⟩]
def awW : List S39 := [⟨[116, 97, 98, 108, 101], [0, 0, 1, 0, 0, 0]⟩]
def lowL : List S63 := [⟨97, 122, 97⟩]
set_option maxRecDepth 100000 in
theorem aw_parse : pats_Parse.f 40 { data := #[104, 121, 49, 112, 32, 116, 97, 45, 98, 108, 101] } = some (awP, awW, 0, 0) := by kernel_rfl
theorem low_check : hyph_Check.f 40 lowL = some true := by kernel_rfl
theorem aw_fit : Tr.Fit awP := by
 refine ⟨by decide, fun p hp => ?_⟩
 simp only [awP, List.mem_cons, List.not_mem_nil, or_false] at hp
 subst hp
 refine ⟨by decide, by decide, fun r hr => ?_, by decide⟩
 simp only [List.mem_cons, List.not_mem_nil, or_false] at hr
 rcases hr with rfl | rfl | rfl <;> exact ⟨by decide, by decide⟩
theorem aw_told : ∀ p ∈ awW, p.f1.length = p.f0.length + 1 := by decide
def hyphen : List Int := [104, 121, 112, 104, 101, 110]
def table : List Int := [116, 97, 98, 108, 101]
theorem word_of {l : List Int} (h : l.length ≤ 1000) (h2 : ∀ r ∈ l, -2147483648 ≤ r ∧ r ≤ 2147483647) : Tr.Word l := ⟨h, h2⟩
theorem hyphen_word : Tr.Word hyphen := word_of (by decide) (by decide)
theorem table_word : Tr.Word table := word_of (by decide) (by decide)
theorem aw_1 : pts (wordVals awP awW hyphen) 6 2 2 = [false, false, true, false, false, false, false] := by decide +kernel
theorem aw_2 : pts (wordVals awP awW table) 5 2 2 = [false, false, true, false, false, false] := by decide +kernel
theorem aw_3 : pts (wordVals awP awW table) 5 2 4 = [false, false, false, false, false, false] := by decide +kernel
set_option maxHeartbeats 8000000 in
set_option maxRecDepth 100000 in
theorem awake09_calls (w : World) : Calls Try.prog 24 #[] w fun e w' => e = .returned (.bool true) ∧ Below w.heap.size w w' := by
 have HB := Aside0.mk (Below.refl w.heap.size w)
 go_enter Try.func24, Try.ntmps24
 go_upto_region 1 with fail
 go_cut [1, 2] (fun v1 v2 wc => ∃ b La Lc bt base Wa Wc g2, v1 = .pointer (some ⟨b, 0, none⟩) ∧ v2 = .pointer (some ⟨g2, 0, none⟩) ∧ Aside0 (HyphAt wc b lowL (Tr.make (awP.map Tr.pq)) awW 2 2 La Lc bt base Wa Wc) ∧ Aside0 (wc.heap[g2]? = some (.cells #[.int .i64 0, .int .i64 0] 46 (0, 0))) ∧ Aside0 (Below w.heap.size w wc))
 case first =>
  go_wp2_with (first
   | ((with_reducible refine gate_callee (f := 36) rfl ?_); (refine goesL_ (some 9) rfl rfl Try.func36 (by kernel_rfl) rfl #[] rfl (by (try simp only [List.map_toArray, List.map_cons, List.map_nil]); first | done | rfl) ?_; refine (stanzalaw09_low.calls lowL _ rfl).mono ?_; rintro e wa ⟨v, rfl, hr, hb⟩; refine ⟨_, rfl, ?_⟩; obtain ⟨Al, cl, hv_, hl_, hc_⟩ := Kd.R_reads hr; subst hv_; have HLl := Aside0.mk hl_; have HLc := Aside0.mk hc_; replace HB := Aside0.mk (below_step HB.out hb); clear hb hr hl_ hc_))
   | ((with_reducible refine gate_callee (f := 26) rfl ?_); (refine goesL_ (some 10) rfl rfl Try.func26 (by kernel_rfl) rfl #[.string { data := #[104, 121, 49, 112, 32, 116, 97, 45, 98, 108, 101] }, .slice Al lowL.length cl, .int .i64 2, .int .i64 2] rfl (by (try simp only [List.map_toArray, List.map_cons, List.map_nil]); first | done | rfl) ?_; refine (new_ok 40 _ Al cl lowL 2 2 awP awW _ HLc.out HLl.out (by decide) low_check (by decide) (by decide) (by decide) (by decide) aw_parse aw_fit).mono ?_; rintro e wb ⟨b, La, Lc, bt, base, Wa, Wc, rfl, hH, hb⟩; refine ⟨_, rfl, ?_⟩; have HH := Aside0.mk hH; replace HB := Aside0.mk (below_step HB.out hb); clear hb hH HLl HLc))
   | ((with_reducible refine gate_dst (N := 2) rfl ?_); refine box_event ?hg (N := 2) ?hd (cs := #[.int .i64 0, .int .i64 0]) (t := 46) ?hr ?_; (case hd => rfl); (case hg => rfl); (case hr => first | (go_simp; done) | (go_simp; rfl)); intro gx hg wc1 hbox hb; have GE := Aside0.mk (by rw [hg]; exact below_size HB.out : w.heap.size ≤ gx); have GH := Aside0.mk (Nat.le_of_eq hg.symm : wb.heap.size ≤ gx); have BKx := Aside0.mk hbox; have HBb := Aside0.mk hb; replace HB := Aside0.mk (below_step HB.out hb); have hcz0 : wc1.cell? ⟨gx, 0, none⟩ = some (.int .i64 0) := (blk_cell hbox 0).trans rfl; have hcz1 : wc1.cell? ⟨gx, 1, none⟩ = some (.int .i64 0) := (blk_cell hbox 1).trans rfl; have hfz0 := blk_frozen hbox 0; have hfz1 := blk_frozen hbox 1; clear hb hbox hg))
  go_meet
  case rel =>
   refine ⟨b, La, Lc, bt, base, Wa, Wc, gx, rfl, rfl, ⟨HH.out.below (below_set (below_set HBb.out GH.out) GH.out)⟩, ⟨?_⟩, ⟨below_set (below_set HB.out GE.out) GE.out⟩⟩
   exact blk_put (cs := #[.int .i64 0, .int .i64 0]) (blk_put (cs := #[.int .i64 0, .int .i64 0]) BKx.out 0 _ rfl) 1 _ rfl
 case rest =>
  obtain ⟨b1, La1, Lc1, bt1, base1, Wa1, Wc1, g2, rfl, rfl, HH1, BK2, HB'⟩ := hcut
  clear HB
  have HB := HB'
  clear HB'
  rename World => wz
  go_upto_region 2 with fail
  go_cut [3, 4] (fun v3 v4 wc => ∃ b La Lc bt base Wa Wc g4, v3 = .pointer (some ⟨b, 0, none⟩) ∧ v4 = .pointer (some ⟨g4, 0, none⟩) ∧ Aside0 (HyphAt wc b1 lowL (Tr.make (awP.map Tr.pq)) awW 2 2 La1 Lc1 bt1 base1 Wa1 Wc1) ∧ Aside0 (HyphAt wc b lowL (Tr.make (awP.map Tr.pq)) awW 2 4 La Lc bt base Wa Wc) ∧ Aside0 (wc.heap[g2]? = some (.cells #[.int .i64 0, .int .i64 0] 46 (0, 0))) ∧ Aside0 (wc.heap[g4]? = some (.cells #[.int .i64 0, .int .i64 0] 46 (0, 0))) ∧ Aside0 (Below w.heap.size w wc))
  case first =>
   go_wp2_with (first
   | ((with_reducible refine gate_callee (f := 36) rfl ?_); (refine goesL_ (some 14) rfl rfl Try.func36 (by kernel_rfl) rfl #[] rfl (by (try simp only [List.map_toArray, List.map_cons, List.map_nil]); first | done | rfl) ?_; refine (stanzalaw09_low.calls lowL _ rfl).mono ?_; rintro e wa ⟨v, rfl, hr, hb⟩; refine ⟨_, rfl, ?_⟩; obtain ⟨Al, cl, hv_, hl_, hc_⟩ := Kd.R_reads hr; subst hv_; have HLl := Aside0.mk hl_; have HLc := Aside0.mk hc_; replace HB := Aside0.mk (below_step HB.out hb); replace HH1 := Aside0.mk (HH1.out.below hb); replace BK2 := Aside0.mk (blk_below BK2.out hb); clear hb hr hl_ hc_))
   | ((with_reducible refine gate_callee (f := 26) rfl ?_); (refine goesL_ (some 15) rfl rfl Try.func26 (by kernel_rfl) rfl #[.string { data := #[104, 121, 49, 112, 32, 116, 97, 45, 98, 108, 101] }, .slice Al lowL.length cl, .int .i64 2, .int .i64 4] rfl (by (try simp only [List.map_toArray, List.map_cons, List.map_nil]); first | done | rfl) ?_; refine (new_ok 40 _ Al cl lowL 2 4 awP awW _ HLc.out HLl.out (by decide) low_check (by decide) (by decide) (by decide) (by decide) aw_parse aw_fit).mono ?_; rintro e wb ⟨b, La, Lc, bt, base, Wa, Wc, rfl, hH, hb⟩; refine ⟨_, rfl, ?_⟩; have HH := Aside0.mk hH; replace HB := Aside0.mk (below_step HB.out hb); replace HH1 := Aside0.mk (HH1.out.below hb); replace BK2 := Aside0.mk (blk_below BK2.out hb); clear hb hH HLl HLc))
   | ((with_reducible refine gate_dst (N := 4) rfl ?_); refine box_event ?hg (N := 4) ?hd (cs := #[.int .i64 0, .int .i64 0]) (t := 46) ?hr ?_; (case hd => rfl); (case hg => rfl); (case hr => first | (go_simp; done) | (go_simp; rfl)); intro gx hg wc1 hbox hb; have GE := Aside0.mk (by rw [hg]; exact below_size HB.out : w.heap.size ≤ gx); have GH := Aside0.mk (Nat.le_of_eq hg.symm : wb.heap.size ≤ gx); have BKx := Aside0.mk hbox; have HBb := Aside0.mk hb; replace HB := Aside0.mk (below_step HB.out hb); have hcz0 : wc1.cell? ⟨gx, 0, none⟩ = some (.int .i64 0) := (blk_cell hbox 0).trans rfl; have hcz1 : wc1.cell? ⟨gx, 1, none⟩ = some (.int .i64 0) := (blk_cell hbox 1).trans rfl; have hfz0 := blk_frozen hbox 0; have hfz1 := blk_frozen hbox 1; clear hb hbox hg))
   go_meet
   case rel =>
    refine ⟨b, La, Lc, bt, base, Wa, Wc, gx, rfl, rfl, ⟨HH1.out.below (below_set (below_set HBb.out GH.out) GH.out)⟩, ⟨HH.out.below (below_set (below_set HBb.out GH.out) GH.out)⟩, ⟨blk_below BK2.out (below_set (below_set HBb.out GH.out) GH.out)⟩, ⟨?_⟩, ⟨below_set (below_set HB.out GE.out) GE.out⟩⟩
    exact blk_put (cs := #[.int .i64 0, .int .i64 0]) (blk_put (cs := #[.int .i64 0, .int .i64 0]) BKx.out 0 _ rfl) 1 _ rfl
  case rest =>
   obtain ⟨b2, La2, Lc2, bt2, base2, Wa2, Wc2, g4, rfl, rfl, HH1', HH2, BK2', BK4, HB'⟩ := hcut
   clear HB HH1 BK2
   rename World => wy
   have q2 : wy.cell? ⟨g2, 0, none⟩ = some (.int .i64 0) := (blk_cell BK2'.out 0).trans rfl
   have q4 : wy.cell? ⟨g4, 0, none⟩ = some (.int .i64 0) := (blk_cell BK4.out 0).trans rfl
   go_upto_region 5 with fail
   clear q2 q4 BK2' BK4
   have HB := HB'
   have HH1 := HH1'
   clear HB' HH1'
   go_cut [5, 6, 7] (fun v5 v6 v7 wc => ∃ A5 c5 A6 c6 A7 c7, v5 = .slice A5 7 c5 ∧ v6 = .slice A6 6 c6 ∧ v7 = .slice A7 6 c7 ∧ Aside0 (Kd.C Kd.bool wc A5 7 [false, false, true, false, false, false, false]) ∧ Aside0 (Kd.C Kd.bool wc A6 6 [false, false, true, false, false, false]) ∧ Aside0 (Kd.C Kd.bool wc A7 6 [false, false, false, false, false, false]) ∧ Aside0 (Below w.heap.size w wc))
   case first =>
    go_wp2_with (first
     | ((with_reducible refine gate_dst (N := 27) rfl ?_); (refine Kd.R_lit (Kd.int .i32) (w0 := w) w.heap.size 21 ?hg (N := 27) ?hd (xs := hyphen) (inner := [.int .i32 104, .int .i32 121, .int .i32 112, .int .i32 104, .int .i32 101, .int .i32 110]) (ok := fun _ => True) (okp := fun _ => True) ?hr ?hp (fun _ hk => hk) trivial HB.out (below_size HB.out) (by decide) ?_; (case hd => rfl); (case hg => rfl); (case hr => first | (go_simp; done) | (go_simp; rfl)); (case hp => exact (Reps.one (show Kd.M (Kd.int .i32) _ _ _ 104 [.int .i32 104] from rfl) (Reps.one (show Kd.M (Kd.int .i32) _ _ _ 121 [.int .i32 121] from rfl) (Reps.one (show Kd.M (Kd.int .i32) _ _ _ 112 [.int .i32 112] from rfl) (Reps.one (show Kd.M (Kd.int .i32) _ _ _ 104 [.int .i32 104] from rfl) (Reps.one (show Kd.M (Kd.int .i32) _ _ _ 101 [.int .i32 101] from rfl) (Reps.one (show Kd.M (Kd.int .i32) _ _ _ 110 [.int .i32 110] from rfl) (Reps.none _ _)))))))); intro v27 w27 ho hb_ hg_ hn_; clear hn_; obtain ⟨A27, c27, hv_, hl_, hc_⟩ := Kd.R_reads ho; subst hv_; have HL27 := Aside0.mk hl_; have HC27 := Aside0.mk hc_; have hb := below_none hg_; replace HH1 := Aside0.mk (HH1.out.below hb); replace HH2 := Aside0.mk (HH2.out.below hb); replace HB := Aside0.mk hb_; clear ho hb_ hg_ hl_ hc_ hb))
     | ((with_reducible refine gate_callee (f := 33) rfl ?_); (refine goesL_ (some 28) rfl rfl Try.func33 (by kernel_rfl) rfl #[.pointer (some ⟨b1, 0, none⟩), .slice A27 hyphen.length c27] rfl (by (try simp only [List.map_toArray, List.map_cons, List.map_nil]); first | done | rfl) ?_; refine (word_calls b1 lowL awP awW 2 2 La1 Lc1 bt1 base1 Wa1 Wc1 A27 c27 hyphen _ HH1.out HC27.out HL27.out aw_fit hyphen_word (by decide) (by decide) aw_told).mono ?_; rintro e wa ⟨v, rfl, hr, hb⟩; refine ⟨_, rfl, ?_⟩; rw [show hyphen.length = 6 from rfl, aw_1] at hr; obtain ⟨A5, c5, hv_, hl_, hc_⟩ := Kd.R_reads hr; subst hv_; have HC5 := Aside0.mk hc_; replace HH1 := Aside0.mk (HH1.out.below hb); replace HH2 := Aside0.mk (HH2.out.below hb); replace HB := Aside0.mk (below_step HB.out hb); clear hb hr hl_ hc_))
     | ((with_reducible refine gate_dst (N := 30) rfl ?_); (refine Kd.R_lit (Kd.int .i32) (w0 := w) w.heap.size 21 ?hg (N := 30) ?hd (xs := table) (inner := [.int .i32 116, .int .i32 97, .int .i32 98, .int .i32 108, .int .i32 101]) (ok := fun _ => True) (okp := fun _ => True) ?hr ?hp (fun _ hk => hk) trivial HB.out (below_size HB.out) (by decide) ?_; (case hd => rfl); (case hg => rfl); (case hr => first | (go_simp; done) | (go_simp; rfl)); (case hp => exact (Reps.one (show Kd.M (Kd.int .i32) _ _ _ 116 [.int .i32 116] from rfl) (Reps.one (show Kd.M (Kd.int .i32) _ _ _ 97 [.int .i32 97] from rfl) (Reps.one (show Kd.M (Kd.int .i32) _ _ _ 98 [.int .i32 98] from rfl) (Reps.one (show Kd.M (Kd.int .i32) _ _ _ 108 [.int .i32 108] from rfl) (Reps.one (show Kd.M (Kd.int .i32) _ _ _ 101 [.int .i32 101] from rfl) (Reps.none _ _))))))); intro v30 w30 ho hb_ hg_ hn_; clear hn_; obtain ⟨A30, c30, hv_, hl_, hc_⟩ := Kd.R_reads ho; subst hv_; have HL30 := Aside0.mk hl_; have HC30 := Aside0.mk hc_; have hb := below_none hg_; replace HC5 := Aside0.mk (Kd.C_below HC5.out hb); replace HH1 := Aside0.mk (HH1.out.below hb); replace HH2 := Aside0.mk (HH2.out.below hb); replace HB := Aside0.mk hb_; clear ho hb_ hg_ hl_ hc_ hb))
     | ((with_reducible refine gate_callee (f := 33) rfl ?_); (refine goesL_ (some 31) rfl rfl Try.func33 (by kernel_rfl) rfl #[.pointer (some ⟨b1, 0, none⟩), .slice A30 table.length c30] rfl (by (try simp only [List.map_toArray, List.map_cons, List.map_nil]); first | done | rfl) ?_; refine (word_calls b1 lowL awP awW 2 2 La1 Lc1 bt1 base1 Wa1 Wc1 A30 c30 table _ HH1.out HC30.out HL30.out aw_fit table_word (by decide) (by decide) aw_told).mono ?_; rintro e wa ⟨v, rfl, hr, hb⟩; refine ⟨_, rfl, ?_⟩; rw [show table.length = 5 from rfl, aw_2] at hr; obtain ⟨A6, c6, hv_, hl_, hc_⟩ := Kd.R_reads hr; subst hv_; have HC6 := Aside0.mk hc_; replace HC5 := Aside0.mk (Kd.C_below HC5.out hb); replace HH2 := Aside0.mk (HH2.out.below hb); replace HB := Aside0.mk (below_step HB.out hb); clear hb hr hl_ hc_))
     | ((with_reducible refine gate_dst (N := 33) rfl ?_); (refine Kd.R_lit (Kd.int .i32) (w0 := w) w.heap.size 21 ?hg (N := 33) ?hd (xs := table) (inner := [.int .i32 116, .int .i32 97, .int .i32 98, .int .i32 108, .int .i32 101]) (ok := fun _ => True) (okp := fun _ => True) ?hr ?hp (fun _ hk => hk) trivial HB.out (below_size HB.out) (by decide) ?_; (case hd => rfl); (case hg => rfl); (case hr => first | (go_simp; done) | (go_simp; rfl)); (case hp => exact (Reps.one (show Kd.M (Kd.int .i32) _ _ _ 116 [.int .i32 116] from rfl) (Reps.one (show Kd.M (Kd.int .i32) _ _ _ 97 [.int .i32 97] from rfl) (Reps.one (show Kd.M (Kd.int .i32) _ _ _ 98 [.int .i32 98] from rfl) (Reps.one (show Kd.M (Kd.int .i32) _ _ _ 108 [.int .i32 108] from rfl) (Reps.one (show Kd.M (Kd.int .i32) _ _ _ 101 [.int .i32 101] from rfl) (Reps.none _ _))))))); intro v33 w33 ho hb_ hg_ hn_; clear hn_; obtain ⟨A33, c33, hv_, hl_, hc_⟩ := Kd.R_reads ho; subst hv_; have HL33 := Aside0.mk hl_; have HC33 := Aside0.mk hc_; have hb := below_none hg_; replace HC5 := Aside0.mk (Kd.C_below HC5.out hb); replace HC6 := Aside0.mk (Kd.C_below HC6.out hb); replace HH2 := Aside0.mk (HH2.out.below hb); replace HB := Aside0.mk hb_; clear ho hb_ hg_ hl_ hc_ hb))
     | ((with_reducible refine gate_callee (f := 33) rfl ?_); (refine goesL_ (some 34) rfl rfl Try.func33 (by kernel_rfl) rfl #[.pointer (some ⟨b2, 0, none⟩), .slice A33 table.length c33] rfl (by (try simp only [List.map_toArray, List.map_cons, List.map_nil]); first | done | rfl) ?_; refine (word_calls b2 lowL awP awW 2 4 La2 Lc2 bt2 base2 Wa2 Wc2 A33 c33 table _ HH2.out HC33.out HL33.out aw_fit table_word (by decide) (by decide) aw_told).mono ?_; rintro e wa ⟨v, rfl, hr, hb⟩; refine ⟨_, rfl, ?_⟩; rw [show table.length = 5 from rfl, aw_3] at hr; obtain ⟨A7, c7, hv_, hl_, hc_⟩ := Kd.R_reads hr; subst hv_; have HC7 := Aside0.mk hc_; replace HC5 := Aside0.mk (Kd.C_below HC5.out hb); replace HC6 := Aside0.mk (Kd.C_below HC6.out hb); replace HB := Aside0.mk (below_step HB.out hb); clear hb hr hl_ hc_)))
    go_meet
    case rel => exact ⟨A5, c5, A6, c6, A7, c7, rfl, rfl, rfl, HC5, HC6, HC7, HB⟩
   case rest =>
    obtain ⟨A5, c5, A6, c6, A7, c7, rfl, rfl, rfl, HC5, HC6, HC7, HB'⟩ := hcut
    obtain ⟨ad5, e5, x52⟩ := Kd.at_bool HC5.out 2 (by decide) (by decide)
    subst e5
    obtain ⟨ad5', e5, x53⟩ := Kd.at_bool HC5.out 3 (by decide) (by decide)
    injection e5 with e5
    subst e5
    obtain ⟨ad6, e6, x62⟩ := Kd.at_bool HC6.out 2 (by decide) (by decide)
    subst e6
    obtain ⟨ad7, e7, x72⟩ := Kd.at_bool HC7.out 2 (by decide) (by decide)
    subst e7
    replace x52 : wc.cell? ⟨ad5.block, ad5.off + 2, none⟩ = some (.bool true) := x52
    replace x53 : wc.cell? ⟨ad5.block, ad5.off + 3, none⟩ = some (.bool false) := x53
    replace x62 : wc.cell? ⟨ad6.block, ad6.off + 2, none⟩ = some (.bool true) := x62
    replace x72 : wc.cell? ⟨ad7.block, ad7.off + 2, none⟩ = some (.bool false) := x72
    go_wp2_with fail
    go_ret
    exact ⟨rfl, HB'.out⟩
end Go.Proofs.Ytoefjhdcipgacaa.Hy
end
section
namespace Go.Proofs.Ytoefjhdcipgacaa.Hy
open Go.RowKit Go.Proofs.YtoefjhdcipgacaaW.PrintWords Go.Proofs.YtoefjhdcipgacaaW.PrintLast Go.Proofs.YtoefjhdcipgacaaW.PrintMore
open Go.Proofs.Ytoefjhdcipgacaa.PA Go.Proofs.Ytoefjhdcipgacaa.Dec
theorem low_check' : hyph_Check.f 40000 lowL = some true := mono_le (hyph_Check.mono lowL) low_check 40000 (by decide)
abbrev codeOf (s : ByteArray) : Int := (parseOf s).2.2.1
abbrev atOf (s : ByteArray) : Int := (parseOf s).2.2.2
abbrev patsOf (s : ByteArray) : List S39 := (parseOf s).1
abbrev toldOf (s : ByteArray) : List S39 := (parseOf s).2.1
theorem pparse_zero (f : Nat) : ∀ (l : List S66) (xs ws : List S39), (pparse f l xs ws).2.2.1 = 0 → (pparse f l xs ws).2.2.2 = 0 := by
 induction f with
 | zero => intro l xs ws _; rfl
 | succ f ih =>
  intro l xs ws h
  cases l with
  | nil => rfl
  | cons s t =>
   rw [pparse] at h ⊢
   split at h
   ·rename_i hb; rw [if_pos hb]; exact ih _ _ _ h
   ·rename_i hb
    rw [if_neg hb]
    split at h
    ·cases h
    ·rename_i hm
     rw [if_neg hm]
     dsimp only at h ⊢
     split at h
     ·rename_i hok
      rw [if_pos hok]
      split at h
      ·rename_i hh
       rw [if_pos hh]
       split at h
       ·cases h
       ·rename_i hk; rw [if_neg hk]; exact ih _ _ _ h
      ·rename_i hh; rw [if_neg hh]; exact ih _ _ _ h
     ·cases h
theorem at_zero {s : ByteArray} (h : codeOf s = 0) : atOf s = 0 := by
 unfold codeOf atOf parseOf at *
 split at h
 ·cases h
 ·rename_i hs; rw [if_neg hs]; exact pparse_zero _ _ _ _ h
theorem parse_eq' (s : ByteArray) : pats_Parse.f 40000 s = some (patsOf s, toldOf s, codeOf s, atOf s) := parse_eq s 40000 (Nat.le_refl _)
theorem newB (s : ByteArray) (A : Option Addr) (c : Nat) (ls : List S63) (left right : Int) (w : World) (hl : Kd.C k63 w A ls.length ls) (hlc : ls.length ≤ c) (hck : hyph_Check.f 40000 ls = some true) (h1 : 1 ≤ left ∧ left ≤ 24) (h2 : 1 ≤ right ∧ right ≤ 24) (hc : codeOf s ≠ 0) :
  Calls Try.prog 26 #[.string s, .slice A ls.length c, .int .i64 left, .int .i64 right] w fun e w' => e = .returned (.tuple #[.pointer none, .agg #[.int .i64 (codeOf s), .int .i64 (atOf s)]]) ∧ Below w.heap.size w w' :=
 new_bad3 40000 s A c ls left right (patsOf s) (toldOf s) (codeOf s) (atOf s) w hl hlc hck h1.1 h2.1 h1.2 h2.2 (parse_eq' s) hc
theorem newC (s : ByteArray) (A : Option Addr) (c : Nat) (ls : List S63) (left right : Int) (w : World) (hl : Kd.C k63 w A ls.length ls) (hlc : ls.length ≤ c) (h8 : ls.length ≤ 1000000) (hck : hyph_Check.f 40000 ls = some true) (h1 : 1 ≤ left ∧ left ≤ 24) (h2 : 1 ≤ right ∧ right ≤ 24) (hc : codeOf s = 0) :
  Calls Try.prog 26 #[.string s, .slice A ls.length c, .int .i64 left, .int .i64 right] w fun e w' => ∃ b La Lc bt base Wa Wc, e = .returned (.tuple #[.pointer (some ⟨b, 0, none⟩), .agg #[.int .i64 0, .int .i64 0]]) ∧ HyphAt w' b ls (Tr.make ((patsOf s).map Tr.pq)) (toldOf s) left right La Lc bt base Wa Wc ∧ Below w.heap.size w w' :=
 new_ok 40000 s A c ls left right (patsOf s) (toldOf s) w hl hlc h8 hck h1.1 h2.1 h1.2 h2.2 (by rw [parse_eq' s, hc, at_zero hc]) (parseOf_fit s)
def letter4 (r : Int) : Int := rd [97, 98, 99, 100] (r % 4294967296 % 4)
def fewL (fit : Bool) (l : List Int) : List Int := (l.take 80).map fun r => if fit = true then letter4 r else r
theorem few_run (fit : Bool) (l : List Int) (m : Nat) : ∀ (i k : Nat) (xs : List Int), 80 - i ≤ m → i ≤ l.length → i ≤ 80 → xs.length = i → m + 2 ≤ k → stanzalaw09_few.l0 k fit xs l (l.length : Int) (i : Int) = some (xs ++ ((l.take 80).drop i).map fun r => if fit = true then letter4 r else r) := by
 induction m with
 | zero =>
  intro i k xs hm hi h8 hx hk
  have hi8 : i = 80 := by omega
  obtain ⟨k, rfl⟩ : ∃ k', k = k' + 1 := ⟨k - 1, by omega⟩
  rw [stanzalaw09_few.l0.eq_2, List.drop_eq_nil_of_le (by rw [List.length_take]; omega), List.map_nil, List.append_nil]
  by_cases h : (i : Int) < (l.length : Int)
  ·rw [if_pos h, if_pos (by omega), if_pos h, if_pos (by omega)]
  ·rw [if_neg h]
 | succ m ih =>
  intro i k xs hm hi h8 hx hk
  obtain ⟨k, rfl⟩ : ∃ k', k = k' + 1 := ⟨k - 1, by omega⟩
  rw [stanzalaw09_few.l0.eq_2]
  by_cases h : (i : Int) < (l.length : Int)
  ·rw [if_pos h, if_pos (by omega), if_pos h]
   by_cases h80 : (i : Int) ≥ 80
   ·rw [if_pos h80, List.drop_eq_nil_of_le (by rw [List.length_take]; omega), List.map_nil, List.append_nil]
   ·rw [if_neg h80]
    have hil : i < l.length := by omega
    have hit : i < (l.take 80).length := by rw [List.length_take]; omega
    have hr : rd l (i : Int) = l[i] := by simp [rd, List.getD_eq_getElem?_getD, List.getElem?_eq_getElem hil]
    have hd : (l.take 80).drop i = l[i] :: (l.take 80).drop (i + 1) := by
     rw [List.drop_eq_getElem_cons hit, List.getElem_take]
    have hw : wrap64 ((i : Int) + 1) = ((i + 1 : Nat) : Int) := by rw [w64 _ ⟨by omega, by omega⟩]; omega
    rw [hd, List.map_cons, hr, hw]
    cases fit with
    | true =>
     rw [if_pos rfl, Option.bind_some, if_pos (by omega), if_pos (by simp only [List.length_cons, List.length_nil]; omega), if_pos (by omega)]
     rw [ih (i + 1) k _ (by omega) (by omega) (by omega) (by rw [List.length_append, hx]; rfl) (by omega), List.append_assoc]
     rfl
    | false =>
     rw [if_neg (by decide), if_pos (by omega)]
     rw [ih (i + 1) k _ (by omega) (by omega) (by omega) (by rw [List.length_append, hx]; rfl) (by omega), List.append_assoc]
     rfl
  ·rw [if_neg h, List.drop_eq_nil_of_le (by rw [List.length_take]; omega), List.map_nil, List.append_nil]
theorem few_eq (fit : Bool) (l : List Int) : stanzalaw09_few.f 100 l fit = some (fewL fit l) := by
 have := few_run fit l 80 0 100 [] (by omega) (Nat.zero_le _) (by omega) rfl (by omega)
 rw [List.nil_append, List.drop_zero] at this
 exact this
theorem letter4_in (r : Int) : 97 ≤ letter4 r ∧ letter4 r ≤ 100 := by
 unfold letter4
 have h1 : 0 ≤ r % 4294967296 % 4 := Int.emod_nonneg _ (by decide)
 have h2 : r % 4294967296 % 4 < 4 := Int.emod_lt_of_pos _ (by decide)
 obtain ⟨n, hn⟩ : ∃ n : Nat, (r % 4294967296 % 4) = (n : Int) := ⟨(r % 4294967296 % 4).toNat, by omega⟩
 rw [hn]
 have : n < 4 := by omega
 match n, this with
 | 0, _ => exact ⟨by decide, by decide⟩
 | 1, _ => exact ⟨by decide, by decide⟩
 | 2, _ => exact ⟨by decide, by decide⟩
 | 3, _ => exact ⟨by decide, by decide⟩
theorem fewL_len (fit : Bool) (l : List Int) : (fewL fit l).length ≤ 80 := by
 unfold fewL
 rw [List.length_map, List.length_take]; omega
theorem fewL_word (fit : Bool) (l : List Int) (h : ∀ r ∈ l, Tr.In32 r) : Tr.Word (fewL fit l) := by
 refine ⟨Nat.le_trans (fewL_len fit l) (by decide), fun r hr => ?_⟩
 obtain ⟨s, hs, rfl⟩ := List.mem_map.1 hr
 cases fit with
 | false => exact h s (List.mem_of_mem_take hs)
 | true => have := letter4_in s; exact ⟨by show _ ≤ letter4 s; omega, by show letter4 s ≤ _; omega⟩
theorem tmod_in (a b : Int) (h0 : 0 ≤ a) (hb : 0 < b) : 0 ≤ a.tmod b ∧ a.tmod b < b := ⟨Int.tmod_nonneg b h0, Int.tmod_lt_of_pos a hb⟩
end Go.Proofs.Ytoefjhdcipgacaa.Hy
end
section
namespace Go.Proofs.Ytoefjhdcipgacaa.Hy
open Go.RowKit Go.Proofs.YtoefjhdcipgacaaW.PrintWords Go.Proofs.YtoefjhdcipgacaaW.PrintLast Go.Proofs.YtoefjhdcipgacaaW.PrintMore
open Go.Proofs.Ytoefjhdcipgacaa.PA Go.Proofs.Ytoefjhdcipgacaa.Dec
def oneLet (last : Int) (x : S63) : S63 := ⟨last + 1 + x.f0 % 4294967296 % 120, last + 1 + x.f0 % 4294967296 % 120 + x.f1 % 4294967296 % 40, Int.tmod (IntKind.u64.wrap x.f2) 200⟩
def lettersTo (last : Int) : List S63 → List S63
 | [] => []
 | x :: t => oneLet last x :: lettersTo (oneLet last x).f1 t
def lettersM (ls : List S63) : List S63 := lettersTo (-1) (ls.take 50)
theorem lettersTo_length (l : List S63) : ∀ last, (lettersTo last l).length = l.length := by
 induction l with
 | nil => intro _; rfl
 | cons x t ih => intro last; rw [lettersTo, List.length_cons, List.length_cons, ih]
theorem u64_in (n : Int) : 0 ≤ IntKind.u64.wrap n ∧ IntKind.u64.wrap n < 18446744073709551616 := by
 have : IntKind.u64.wrap n = n % 18446744073709551616 := by simp [IntKind.wrap, IntKind.bits, IntKind.signed]
 rw [this]; omega
theorem oneLet_in (last : Int) (x : S63) : last < (oneLet last x).f0 ∧ (oneLet last x).f0 ≤ (oneLet last x).f1 ∧ (oneLet last x).f1 ≤ last + 160 ∧ 0 ≤ (oneLet last x).f2 ∧ (oneLet last x).f2 < 200 := by
 have h := tmod_in (IntKind.u64.wrap x.f2) 200 (u64_in x.f2).1 (by decide)
 have ha : 0 ≤ x.f0 % 4294967296 % 120 ∧ x.f0 % 4294967296 % 120 < 120 := ⟨Int.emod_nonneg _ (by decide), Int.emod_lt_of_pos _ (by decide)⟩
 have hb : 0 ≤ x.f1 % 4294967296 % 40 ∧ x.f1 % 4294967296 % 40 < 40 := ⟨Int.emod_nonneg _ (by decide), Int.emod_lt_of_pos _ (by decide)⟩
 unfold oneLet
 dsimp only
 generalize x.f0 % 4294967296 % 120 = a at ha ⊢
 generalize x.f1 % 4294967296 % 40 = b at hb ⊢
 generalize Int.tmod (IntKind.u64.wrap x.f2) 200 = c at h ⊢
 omega
theorem step_eq (last : Int) (x : S63) (h1 : -1 ≤ last) (h2 : last ≤ 100000) :
  (⟨wrap32 (wrap64 ((wrap64 (last + 1)) + ((x.f0 % 4294967296) % 120))), wrap32 (wrap64 ((wrap64 ((wrap64 (last + 1)) + ((x.f0 % 4294967296) % 120))) + ((x.f1 % 4294967296) % 40))), wrap64 (Int.tmod (IntKind.u64.wrap x.f2) 200)⟩ : S63) = oneLet last x ∧
  wrap64 ((wrap64 ((wrap64 (last + 1)) + ((x.f0 % 4294967296) % 120))) + ((x.f1 % 4294967296) % 40)) = (oneLet last x).f1 := by
 have ha : 0 ≤ x.f0 % 4294967296 % 120 ∧ x.f0 % 4294967296 % 120 < 120 := ⟨Int.emod_nonneg _ (by decide), Int.emod_lt_of_pos _ (by decide)⟩
 have hb : 0 ≤ x.f1 % 4294967296 % 40 ∧ x.f1 % 4294967296 % 40 < 40 := ⟨Int.emod_nonneg _ (by decide), Int.emod_lt_of_pos _ (by decide)⟩
 have hc := tmod_in (IntKind.u64.wrap x.f2) 200 (u64_in x.f2).1 (by decide)
 unfold oneLet
 generalize x.f0 % 4294967296 % 120 = a at ha ⊢
 generalize x.f1 % 4294967296 % 40 = b at hb ⊢
 generalize Int.tmod (IntKind.u64.wrap x.f2) 200 = c at hc ⊢
 have e1 : wrap64 (last + 1) = last + 1 := w64 _ ⟨by omega, by omega⟩
 have e2 : wrap64 (last + 1 + a) = last + 1 + a := w64 _ ⟨by omega, by omega⟩
 have e3 : wrap64 (last + 1 + a + b) = last + 1 + a + b := w64 _ ⟨by omega, by omega⟩
 have e4 : wrap32 (last + 1 + a) = last + 1 + a := w32 _ ⟨by omega, by omega⟩
 have e5 : wrap32 (last + 1 + a + b) = last + 1 + a + b := w32 _ ⟨by omega, by omega⟩
 have e6 : wrap64 c = c := w64 _ ⟨by omega, by omega⟩
 simp only [e1, e2, e3, e4, e5, e6, and_self]
theorem letters_run (ls : List S63) (m : Nat) : ∀ (i k : Nat) (xs : List S63) (last : Int), 50 - i ≤ m → i ≤ ls.length → i ≤ 50 → xs.length = i → m + 2 ≤ k → -1 ≤ last → last ≤ 160 * i → stanzalaw09_letters.l0 k ls xs last (i : Int) = some (xs ++ lettersTo last ((ls.take 50).drop i)) := by
 induction m with
 | zero =>
  intro i k xs last hm hi h8 hx hk h1 h2
  obtain ⟨k, rfl⟩ : ∃ k', k = k' + 1 := ⟨k - 1, by omega⟩
  rw [stanzalaw09_letters.l0.eq_2, List.drop_eq_nil_of_le (by rw [List.length_take]; omega), lettersTo, List.append_nil]
  by_cases h : (i : Int) < (ls.length : Int)
  ·rw [if_pos h, if_neg (by omega)]
  ·rw [if_neg h]
 | succ m ih =>
  intro i k xs last hm hi h8 hx hk h1 h2
  obtain ⟨k, rfl⟩ : ∃ k', k = k' + 1 := ⟨k - 1, by omega⟩
  rw [stanzalaw09_letters.l0.eq_2]
  by_cases h : (i : Int) < (ls.length : Int)
  ·rw [if_pos h]
   by_cases h80 : (i : Int) < 50
   ·rw [if_pos h80, if_pos (by omega), if_pos (by omega)]
    have hil : i < ls.length := by omega
    have hit : i < (ls.take 50).length := by rw [List.length_take]; omega
    have hd : (ls.take 50).drop i = rd_T63 ls (i : Int) :: (ls.take 50).drop (i + 1) := by
     rw [List.drop_eq_getElem_cons hit, List.getElem_take, rd63 hil]
    obtain ⟨x, hx0⟩ : ∃ x, x = rd_T63 ls (i : Int) := ⟨_, rfl⟩
    rw [hd, ← hx0, lettersTo]
    have ho := oneLet_in last x
    obtain ⟨s1, s2⟩ := step_eq last x (by omega) (by omega)
    have e7 : wrap64 ((i : Int) + 1) = ((i + 1 : Nat) : Int) := by rw [w64 _ ⟨by omega, by omega⟩]; omega
    rw [s1]
    simp only [s2, e7]
    clear s1 s2 e7
    generalize oneLet last x = y0 at ho ⊢
    have := ih (i + 1) k (xs ++ [y0]) y0.f1 (by omega) (by omega) (by omega) (by rw [List.length_append, hx]; rfl) (by omega) (by omega) (by omega)
    rw [List.append_assoc, List.singleton_append] at this
    exact this
   ·rw [if_neg h80, List.drop_eq_nil_of_le (by rw [List.length_take]; omega), lettersTo, List.append_nil]
  ·rw [if_neg h, List.drop_eq_nil_of_le (by rw [List.length_take]; omega), lettersTo, List.append_nil]
theorem letters_eq (ls : List S63) : stanzalaw09_letters.f 100 ls = some (lettersM ls) := by
 have := letters_run ls 50 0 100 [] (-1) (by omega) (Nat.zero_le _) (by omega) rfl (by omega) (by omega) (by omega)
 rw [List.nil_append, List.drop_zero] at this
 exact this
theorem lettersTo_ok (l : List S63) : ∀ last : Int, -1 ≤ last → last + 160 * l.length ≤ 100000 →
  (∀ i : Nat, i < l.length → last < (rd_T63 (lettersTo last l) (i : Int)).f0 ∧ (rd_T63 (lettersTo last l) (i : Int)).f0 ≤ (rd_T63 (lettersTo last l) (i : Int)).f1 ∧ (rd_T63 (lettersTo last l) (i : Int)).f1 ≤ last + 160 * l.length ∧ 0 ≤ (rd_T63 (lettersTo last l) (i : Int)).f2 ∧ (rd_T63 (lettersTo last l) (i : Int)).f2 < 200) ∧
  ∀ i j : Nat, i < j → j < l.length → (rd_T63 (lettersTo last l) (i : Int)).f1 < (rd_T63 (lettersTo last l) (j : Int)).f0 := by
 have r0 : ∀ (x : S63) t, rd_T63 (x :: t) ((0 : Nat) : Int) = x := fun _ _ => rfl
 have rs : ∀ (x : S63) t (n : Nat), rd_T63 (x :: t) ((n + 1 : Nat) : Int) = rd_T63 t (n : Int) := fun x t n => by
  show (x :: t).getD ((n + 1 : Nat) : Int).toNat z63 = t.getD ((n : Nat) : Int).toNat z63
  rw [Int.toNat_natCast, Int.toNat_natCast]; rfl
 induction l with
 | nil => intro last _ _; exact ⟨fun i h => absurd h (Nat.not_lt_zero i), fun i j _ h => absurd h (Nat.not_lt_zero j)⟩
 | cons x t ih =>
  intro last h1 h2
  rw [List.length_cons] at h2
  have ho := oneLet_in last x
  rw [lettersTo]
  generalize oneLet last x = y0 at ho ⊢
  obtain ⟨a1, a2⟩ := ih y0.f1 (by omega) (by omega)
  refine ⟨fun i hi => ?_, fun i j hij hj => ?_⟩
  ·rw [List.length_cons] at hi ⊢
   cases i with
   | zero => rw [r0]; omega
   | succ i => rw [rs]; have := a1 i (by omega); omega
  ·rw [List.length_cons] at hj
   cases j with
   | zero => exact absurd hij (Nat.not_lt_zero i)
   | succ j =>
    rw [rs]
    cases i with
    | zero => rw [r0]; exact (a1 j (by omega)).1
    | succ i => rw [rs]; exact a2 i j (by omega) (by omega)
theorem lettersM_len (ls : List S63) : (lettersM ls).length ≤ 50 := by rw [lettersM, lettersTo_length, List.length_take]; omega
theorem lettersM_ok (ls : List S63) : LsOk (lettersM ls) := by
 have hl : (ls.take 50).length ≤ 50 := by rw [List.length_take]; omega
 obtain ⟨a1, a2⟩ := lettersTo_ok (ls.take 50) (-1) (by omega) (by omega)
 refine ⟨by have := lettersM_len ls; omega, fun i hi => ?_, fun i j hij hj => a2 i j hij (by rw [lettersM, lettersTo_length] at hj; exact hj)⟩
 have := a1 i (by rw [lettersM, lettersTo_length] at hi; exact hi)
 unfold lettersM
 generalize rd_T63 (lettersTo (-1) (ls.take 50)) (i : Int) = y0 at this ⊢
 generalize (ls.take 50).length = n0 at hl this
 omega
theorem check_run {ls : List S63} (h : LsOk ls) (m : Nat) : ∀ (i k : Nat) (last : Int), ls.length - i ≤ m → i ≤ ls.length → m + 2 ≤ k → (∀ j : Nat, i ≤ j → j < ls.length → last < (rd_T63 ls (j : Int)).f0) → hyph_Check.l0 k last ls (ls.length : Int) (i : Int) = some true := by
 have hl := h.1
 induction m with
 | zero =>
  intro i k last hm hi hk _
  obtain ⟨k, rfl⟩ : ∃ k', k = k' + 1 := ⟨k - 1, by omega⟩
  rw [hyph_Check.l0.eq_2, if_neg (by omega)]
 | succ m ih =>
  intro i k last hm hi hk hlast
  obtain ⟨k, rfl⟩ : ∃ k', k = k' + 1 := ⟨k - 1, by omega⟩
  rw [hyph_Check.l0.eq_2]
  by_cases hc : (i : Int) < (ls.length : Int)
  ·have g := h.2.1 i (by omega)
   have g2 := hlast i (Nat.le_refl _) (by omega)
   have g3 : ∀ j : Nat, i + 1 ≤ j → j < ls.length → (rd_T63 ls (i : Int)).f1 < (rd_T63 ls (j : Int)).f0 := fun j hj1 hj2 => h.2.2 i j (by omega) hj2
   clear hlast
   generalize rd_T63 ls (i : Int) = y0 at g g2 g3 ⊢
   rw [if_pos hc, if_pos (by omega), if_pos hc, if_neg (by omega), if_neg (by omega), if_neg (by omega), if_neg (by omega)]
   have e1 : wrap32 (y0.f1 - y0.f0) = y0.f1 - y0.f0 := w32 _ ⟨by omega, by omega⟩
   have e2 : wrap64 (y0.f1 - y0.f0) = y0.f1 - y0.f0 := w64 _ ⟨by omega, by omega⟩
   have e3 : wrap64 (1114111 - (y0.f1 - y0.f0)) = 1114111 - (y0.f1 - y0.f0) := w64 _ ⟨by omega, by omega⟩
   have e4 : wrap64 ((i : Int) + 1) = ((i + 1 : Nat) : Int) := by rw [w64 _ ⟨by omega, by omega⟩]; omega
   simp only [e1, e2, e3, e4]
   clear e1 e2 e3 e4
   rw [if_neg (by omega)]
   exact ih (i + 1) k _ (by omega) (by omega) (by omega) g3
  ·rw [if_neg hc]
theorem check_ok {ls : List S63} (h : LsOk ls) (k : Nat) (hk : 300 ≤ k) : hyph_Check.f k ls = some true := by
 have hl := h.1
 unfold hyph_Check.f
 rw [if_neg (by omega)]
 exact check_run h ls.length 0 k (-1) (by omega) (Nat.zero_le _) (by omega) (fun j _ hj => by have := (h.2.1 j hj).1; omega)
theorem refLet_run {ls : List S63} (h : LsOk ls) (r : Int) (hr : Tr.In32 r) (m : Nat) : ∀ (i k : Nat), ls.length - i ≤ m → i ≤ ls.length → m + 2 ≤ k → stanzaref07_Letter.l0 k ls r (i : Int) = some (letOf (ls.drop i) r) := by
 have hl := h.1
 induction m with
 | zero =>
  intro i k hm hi hk
  obtain ⟨k, rfl⟩ : ∃ k', k = k' + 1 := ⟨k - 1, by omega⟩
  rw [stanzaref07_Letter.l0.eq_2, if_neg (by omega), List.drop_eq_nil_of_le (by omega)]
  rfl
 | succ m ih =>
  intro i k hm hi hk
  obtain ⟨k, rfl⟩ : ∃ k', k = k' + 1 := ⟨k - 1, by omega⟩
  rw [stanzaref07_Letter.l0.eq_2]
  by_cases hc : (i : Int) < (ls.length : Int)
  ·have g := h.2.1 i (by omega)
   have hil : i < ls.length := by omega
   have E4 := Aside0.mk (show wrap64 ((i : Int) + 1) = ((i + 1 : Nat) : Int) by rw [w64 _ ⟨by omega, by omega⟩]; omega)
   have hI := ih (i + 1) k (by omega) (by omega) (by omega)
   rw [if_pos hc, if_pos (by omega), List.drop_eq_getElem_cons hil, ← rd63 hil]
   generalize rd_T63 ls (i : Int) = y0 at g ⊢
   have hno : ¬ (y0.f0 ≤ r ∧ r ≤ y0.f1) → letOf (y0 :: ls.drop (i + 1)) r = letOf (ls.drop (i + 1)) r := fun hn => by
    unfold letOf
    rw [List.find?_cons_of_neg (by simpa using hn)]
   by_cases h1 : y0.f0 ≤ r
   ·rw [if_pos h1]
    by_cases h2 : r ≤ y0.f1
    ·rw [if_pos h2]
     have E1 := Aside0.mk (show wrap64 r = r from w64 _ ⟨by have := hr.1; omega, by have := hr.2; omega⟩)
     have E2 := Aside0.mk (show wrap64 (y0.f2 + r) = y0.f2 + r from w64 _ ⟨by omega, by omega⟩)
     have E3 := Aside0.mk (show wrap64 (y0.f0) = y0.f0 from w64 _ ⟨by omega, by omega⟩)
     have E5 := Aside0.mk (show wrap64 (y0.f2 + r - y0.f0) = y0.f2 + r - y0.f0 from w64 _ ⟨by omega, by omega⟩)
     have E6 := Aside0.mk (show wrap32 (y0.f2 + r - y0.f0) = y0.f2 + r - y0.f0 from w32 _ ⟨by omega, by omega⟩)
     simp only [E1.out, E2.out, E3.out, E5.out, E6.out]
     unfold letOf
     rw [List.find?_cons_of_pos (by simpa using ⟨h1, h2⟩)]
    ·rw [if_neg h2, E4.out, hI, hno (fun h => h2 h.2)]
   ·rw [if_neg h1, E4.out, hI, hno (fun h => h1 h.1)]
  ·rw [if_neg hc, List.drop_eq_nil_of_le (by omega)]
   rfl
theorem refLet_eq {ls : List S63} (h : LsOk ls) (r : Int) (hr : Tr.In32 r) (k : Nat) (hk : 300 ≤ k) : stanzaref07_Letter.f k ls r = some (letOf ls r) := by
 have hl := h.1
 exact refLet_run h r hr ls.length 0 k (by omega) (Nat.zero_le _) (by omega)
end Go.Proofs.Ytoefjhdcipgacaa.Hy
end
section
namespace Go.Proofs.Ytoefjhdcipgacaa.Hy
open Go.RowKit Go.Proofs.YtoefjhdcipgacaaW.PrintWords Go.Proofs.YtoefjhdcipgacaaW.PrintLast Go.Proofs.YtoefjhdcipgacaaW.PrintMore
open Go.Proofs.Ytoefjhdcipgacaa.PA Go.Proofs.Ytoefjhdcipgacaa.Dec
def chkFrom : Int → List S63 → Bool
 | _, [] => true
 | last, r :: t => if r.f0 ≤ last ∨ r.f1 < r.f0 ∨ r.f1 > 1114111 ∨ r.f2 < 0 ∨ r.f2 > 1114111 - (r.f1 - r.f0) then false else chkFrom r.f1 t
def chk (ls : List S63) : Bool := decide (ls.length ≤ 256) && chkFrom (-1) ls
theorem drop63 {ls : List S63} {i : Nat} (hi : i < ls.length) : ls.drop i = rd_T63 ls (i : Int) :: ls.drop (i + 1) := by
 rw [List.drop_eq_getElem_cons hi, rd_T63, Int.toNat_natCast, List.getD_eq_getElem?_getD, List.getElem?_eq_getElem hi, Option.getD_some]
theorem chk_run {ls : List S63} (hl : ls.length ≤ 256) (m : Nat) : ∀ (i k : Nat) (last : Int), ls.length - i ≤ m → i ≤ ls.length → m + 2 ≤ k → -1 ≤ last → hyph_Check.l0 k last ls (ls.length : Int) (i : Int) = some (chkFrom last (ls.drop i)) := by
 induction m with
 | zero =>
  intro i k last hm hi hk _
  obtain ⟨k, rfl⟩ : ∃ k', k = k' + 1 := ⟨k - 1, by omega⟩
  rw [hyph_Check.l0.eq_2, if_neg (by omega), List.drop_eq_nil_of_le (by omega)]
  rfl
 | succ m ih =>
  intro i k last hm hi hk hlast
  obtain ⟨k, rfl⟩ : ∃ k', k = k' + 1 := ⟨k - 1, by omega⟩
  rw [hyph_Check.l0.eq_2]
  by_cases hc : (i : Int) < (ls.length : Int)
  ·rw [drop63 (show i < ls.length by omega), chkFrom]
   have hih := fun (last : Int) (h : -1 ≤ last) => ih (i + 1) k last (by omega) (by omega) (by omega) h
   have e4 : wrap64 ((i : Int) + 1) = ((i + 1 : Nat) : Int) := by rw [w64 _ ⟨by omega, by omega⟩]; omega
   rw [if_pos hc, if_pos (show (0 : Int) ≤ (i : Int) by omega), if_pos hc]
   generalize rd_T63 ls (i : Int) = y0
   simp only [e4]
   clear e4
   by_cases c1 : y0.f0 ≤ last
   ·rw [if_pos c1, if_pos (Or.inl c1)]
   rw [if_neg c1]
   by_cases c2 : y0.f1 < y0.f0
   ·rw [if_pos c2, if_pos (Or.inr (Or.inl c2))]
   rw [if_neg c2]
   by_cases c3 : y0.f1 > 1114111
   ·rw [if_pos c3, if_pos (Or.inr (Or.inr (Or.inl c3)))]
   rw [if_neg c3]
   by_cases c4 : y0.f2 < 0
   ·rw [if_pos c4, if_pos (Or.inr (Or.inr (Or.inr (Or.inl c4))))]
   rw [if_neg c4]
   have e1 : wrap32 (y0.f1 - y0.f0) = y0.f1 - y0.f0 := w32 _ ⟨by omega, by omega⟩
   have e2 : wrap64 (y0.f1 - y0.f0) = y0.f1 - y0.f0 := w64 _ ⟨by omega, by omega⟩
   have e3 : wrap64 (1114111 - (y0.f1 - y0.f0)) = 1114111 - (y0.f1 - y0.f0) := w64 _ ⟨by omega, by omega⟩
   simp only [e1, e2, e3]
   clear e1 e2 e3
   by_cases c5 : y0.f2 > 1114111 - (y0.f1 - y0.f0)
   ·rw [if_pos c5, if_pos (Or.inr (Or.inr (Or.inr (Or.inr c5))))]
   ·rw [if_neg c5, if_neg (by omega)]
    exact hih _ (by omega)
  ·rw [if_neg hc, List.drop_eq_nil_of_le (by omega)]
   rfl
theorem check_eq (ls : List S63) (k : Nat) (hk : 300 ≤ k) : hyph_Check.f k ls = some (chk ls) := by
 unfold hyph_Check.f chk
 by_cases h : ls.length ≤ 256
 ·rw [if_neg (by omega), decide_eq_true h, Bool.true_and]
  exact chk_run h ls.length 0 k (-1) (by omega) (Nat.zero_le _) (by omega) (by omega)
 ·rw [if_pos (by omega), decide_eq_false h, Bool.false_and]
theorem let_l0 (k : Nat) (x0 : List S63) (x3 : Int) : stanzaref07_Letters.l0 (k + 1) x0 x3 = if x3 < (x0.length : Int) then (if 0 ≤ x3 then (if ((rd_T63 x0 x3).f0) < 0 then (stanzaref07_Letters.j1 k x0 x3 true) else (if ((rd_T63 x0 x3).f1) < ((rd_T63 x0 x3).f0) then (stanzaref07_Letters.j1 k x0 x3 true) else (if ((rd_T63 x0 x3).f1) > 1114111 then (stanzaref07_Letters.j1 k x0 x3 true) else (if x3 > 0 then (if 0 ≤ (wrap64 (x3 - 1)) then (if (wrap64 (x3 - 1)) < (x0.length : Int) then (stanzaref07_Letters.j1 k x0 x3 (decide (((rd_T63 x0 x3).f0) ≤ ((rd_T63 x0 (wrap64 (x3 - 1))).f1)))) else (none)) else (none)) else (stanzaref07_Letters.j1 k x0 x3 false))))) else (none)) else (some true) := rfl
theorem let_j1 (k : Nat) (x0 : List S63) (x3 : Int) (b : Bool) : stanzaref07_Letters.j1 (k + 1) x0 x3 b = if b = true then (some false) else (if 0 ≤ x3 then (if x3 < (x0.length : Int) then (if ((rd_T63 x0 x3).f2) < 0 then (some false) else (if ((rd_T63 x0 x3).f2) > 1114111 then (some false) else (if (wrap64 ((wrap64 (((rd_T63 x0 x3).f2) + (wrap64 ((rd_T63 x0 x3).f1)))) - (wrap64 ((rd_T63 x0 x3).f0)))) > 1114111 then (some false) else (stanzaref07_Letters.l0 k x0 (wrap64 (x3 + 1)))))) else (none)) else (none)) := rfl
theorem let_run {ls : List S63} (hl : ls.length ≤ 256) (m : Nat) : ∀ (i k : Nat) (last : Int), ls.length - i ≤ m → i ≤ ls.length → 2 * m + 2 ≤ k → -1 ≤ last → (i = 0 → last = -1) → (0 < i → last = (rd_T63 ls ((i : Int) - 1)).f1) → stanzaref07_Letters.l0 k ls (i : Int) = some (chkFrom last (ls.drop i)) := by
 induction m with
 | zero =>
  intro i k last hm hi hk _ _ _
  obtain ⟨k, rfl⟩ : ∃ k', k = k' + 1 := ⟨k - 1, by omega⟩
  rw [let_l0, if_neg (by omega), List.drop_eq_nil_of_le (by omega)]
  rfl
 | succ m ih =>
  intro i k last hm hi hk hlast h0 h1
  obtain ⟨k, rfl⟩ : ∃ k', k = k' + 1 + 1 := ⟨k - 2, by omega⟩
  rw [let_l0]
  by_cases hc : (i : Int) < (ls.length : Int)
  ·have e5 : wrap64 ((i : Int) - 1) = (i : Int) - 1 := w64 _ ⟨by omega, by omega⟩
   have e4 : wrap64 ((i : Int) + 1) = ((i + 1 : Nat) : Int) := by rw [w64 _ ⟨by omega, by omega⟩]; omega
   have hih := fun (h : -1 ≤ (rd_T63 ls (i : Int)).f1) => ih (i + 1) k (rd_T63 ls (i : Int)).f1 (by omega) (by omega) (by omega) h (fun h => by omega) (fun _ => by rw [show ((i + 1 : Nat) : Int) - 1 = (i : Int) by omega])
   rw [drop63 (show i < ls.length by omega), chkFrom, if_pos hc, if_pos (show (0 : Int) ≤ (i : Int) by omega)]
   have hj : ∀ b : Bool, b = decide ((rd_T63 ls (i : Int)).f0 ≤ last) → ¬ (rd_T63 ls (i : Int)).f1 < (rd_T63 ls (i : Int)).f0 → ¬ (rd_T63 ls (i : Int)).f1 > 1114111 → stanzaref07_Letters.j1 (k + 1) ls (i : Int) b = some (if (rd_T63 ls (i : Int)).f0 ≤ last ∨ (rd_T63 ls (i : Int)).f1 < (rd_T63 ls (i : Int)).f0 ∨ (rd_T63 ls (i : Int)).f1 > 1114111 ∨ (rd_T63 ls (i : Int)).f2 < 0 ∨ (rd_T63 ls (i : Int)).f2 > 1114111 - ((rd_T63 ls (i : Int)).f1 - (rd_T63 ls (i : Int)).f0) then false else chkFrom (rd_T63 ls (i : Int)).f1 (ls.drop (i + 1))) := by
    intro b hb c2 c3
    rw [let_j1, if_pos (show (0 : Int) ≤ (i : Int) by omega), if_pos hc, e4]
    clear e4 e5 h1
    generalize rd_T63 ls (i : Int) = y0 at *
    by_cases c1 : y0.f0 ≤ last
    ·rw [if_pos (by rw [hb]; exact decide_eq_true c1), if_pos (Or.inl c1)]
    rw [if_neg (by rw [hb, decide_eq_false c1]; decide)]
    by_cases c4 : y0.f2 < 0
    ·rw [if_pos c4, if_pos (Or.inr (Or.inr (Or.inr (Or.inl c4))))]
    rw [if_neg c4]
    by_cases c5 : y0.f2 > 1114111
    ·rw [if_pos c5, if_pos (Or.inr (Or.inr (Or.inr (Or.inr (by omega)))))]
    rw [if_neg c5]
    have e1 : wrap64 y0.f1 = y0.f1 := w64 _ ⟨by omega, by omega⟩
    have e2 : wrap64 y0.f0 = y0.f0 := w64 _ ⟨by omega, by omega⟩
    have e3 : wrap64 (y0.f2 + y0.f1) = y0.f2 + y0.f1 := w64 _ ⟨by omega, by omega⟩
    have e6 : wrap64 (y0.f2 + y0.f1 - y0.f0) = y0.f2 + y0.f1 - y0.f0 := w64 _ ⟨by omega, by omega⟩
    simp only [e1, e2, e3, e6]
    clear e1 e2 e3 e6
    by_cases c6 : y0.f2 + y0.f1 - y0.f0 > 1114111
    ·rw [if_pos c6, if_pos (Or.inr (Or.inr (Or.inr (Or.inr (by omega)))))]
    ·rw [if_neg c6, if_neg (by omega)]
     exact hih (by omega)
   have hbad : stanzaref07_Letters.j1 (k + 1) ls (i : Int) true = some false := by rw [let_j1, if_pos rfl]
   by_cases c0 : (rd_T63 ls (i : Int)).f0 < 0
   ·rw [if_pos c0, hbad]
    rw [if_pos]
    by_cases hi0 : i = 0
    ·rw [h0 hi0]; left; omega
    ·left; omega
   rw [if_neg c0]
   by_cases c2 : (rd_T63 ls (i : Int)).f1 < (rd_T63 ls (i : Int)).f0
   ·rw [if_pos c2, hbad, if_pos (Or.inr (Or.inl c2))]
   rw [if_neg c2]
   by_cases c3 : (rd_T63 ls (i : Int)).f1 > 1114111
   ·rw [if_pos c3, hbad, if_pos (Or.inr (Or.inr (Or.inl c3)))]
   rw [if_neg c3]
   by_cases hi0 : i = 0
   ·rw [if_neg (by omega)]
    exact hj false (by rw [h0 hi0]; exact (decide_eq_false (by omega)).symm) c2 c3
   ·rw [if_pos (by omega), e5, if_pos (by omega), if_pos (by omega), ← h1 (by omega)]
    exact hj _ rfl c2 c3
  ·rw [if_neg hc, List.drop_eq_nil_of_le (by omega)]
   rfl
theorem letters_f (ls : List S63) (k : Nat) (hk : 600 ≤ k) : stanzaref07_Letters.f k ls = some (chk ls) := by
 unfold stanzaref07_Letters.f chk
 by_cases h : ls.length ≤ 256
 ·rw [if_neg (by omega), decide_eq_true h, Bool.true_and]
  exact let_run h ls.length 0 k (-1) (by omega) (Nat.zero_le _) (by omega) (by omega) (fun _ => rfl) (fun h => by omega)
 ·rw [if_pos (by omega), decide_eq_false h, Bool.false_and]
end Go.Proofs.Ytoefjhdcipgacaa.Hy
end
section
namespace Go.Proofs.Ytoefjhdcipgacaa.Hy
open Go.RowKit Go.Proofs.YtoefjhdcipgacaaW.PrintWords Go.Proofs.YtoefjhdcipgacaaW.PrintLast Go.Proofs.YtoefjhdcipgacaaW.PrintMore
open Go.Proofs.Ytoefjhdcipgacaa.PA Go.Proofs.Ytoefjhdcipgacaa.Dec
theorem letOf_in {ls : List S63} (h : LsOk ls) (r : Int) (h2 : (letOf ls r).2 = true) : Tr.In32 (letOf ls r).1 := by
 unfold letOf at *
 cases hf : ls.find? fun x => decide (x.f0 ≤ r ∧ r ≤ x.f1) with
 | none => rw [hf] at h2; cases h2
 | some x =>
  have hx : x.f0 ≤ r ∧ r ≤ x.f1 := by simpa using List.find?_some hf
  obtain ⟨i, hi, he⟩ := List.getElem_of_mem (List.mem_of_find?_eq_some hf)
  have := h.2.1 i hi
  rw [rd63 hi, he] at this
  exact ⟨by show _ ≤ x.f2 + r - x.f0; omega, by show x.f2 + r - x.f0 ≤ _; omega⟩
theorem runOf_in {ls : List S63} (h : LsOk ls) (xs : List S66) : ∀ r ∈ runOf ls xs, Tr.In32 r := by
 induction xs with
 | nil => intro r hr; cases hr
 | cons s t ih =>
  intro r hr
  rw [runOf] at hr
  split at hr
  ·rename_i hl
   rcases List.mem_cons.1 hr with rfl | hr
   ·exact letOf_in h _ hl
   ·exact ih r hr
  ·cases hr
theorem run_word {ls : List S63} (h : LsOk ls) (xs : List S66) (hl : (runOf ls xs).length ≤ 1000) : Tr.Word (runOf ls xs) := ⟨hl, runOf_in h xs⟩
theorem same_self (l : List Bool) (hl : l.length ≤ 100000) (m : Nat) : ∀ (i k : Nat), l.length - i ≤ m → i ≤ l.length → m + 2 ≤ k → stanzaref07_SameBools.l0 k l l (i : Int) = some true := by
 induction m with
 | zero =>
  intro i k hm hi hk
  obtain ⟨k, rfl⟩ : ∃ k', k = k' + 1 := ⟨k - 1, by omega⟩
  rw [stanzaref07_SameBools.l0.eq_2, if_neg (by omega)]
 | succ m ih =>
  intro i k hm hi hk
  obtain ⟨k, rfl⟩ : ∃ k', k = k' + 1 := ⟨k - 1, by omega⟩
  rw [stanzaref07_SameBools.l0.eq_2]
  by_cases h : (i : Int) < (l.length : Int)
  ·rw [if_pos h, if_pos (by omega), if_pos h, if_neg (by simp), w64 _ ⟨by omega, by omega⟩, show ((i : Int) + 1) = ((i + 1 : Nat) : Int) by omega]
   exact ih (i + 1) k (by omega) (by omega) (by omega)
  ·rw [if_neg h]
theorem same_f (l : List Bool) (hl : l.length ≤ 100000) : stanzaref07_SameBools.f 100002 l l = some true := by
 unfold stanzaref07_SameBools.f
 rw [if_pos rfl]
 exact same_self l hl l.length 0 100002 (by omega) (Nat.zero_le _) (by omega)
end Go.Proofs.Ytoefjhdcipgacaa.Hy
end
section
namespace Go.Proofs.Ytoefjhdcipgacaa.Hy
open Go.RowKit Go.Proofs.YtoefjhdcipgacaaW.PrintWords Go.Proofs.YtoefjhdcipgacaaW.PrintLast Go.Proofs.YtoefjhdcipgacaaW.PrintMore
open Go.Proofs.Ytoefjhdcipgacaa.PA Go.Proofs.Ytoefjhdcipgacaa.Dec
def Apart (ws : List S39) : Prop := ws.Pairwise fun a b => a.f0 ≠ b.f0
theorem pparse_apart (f : Nat) : ∀ (l : List S66) (xs ws : List S39), Apart ws → Apart (pparse f l xs ws).2.1 := by
 induction f with
 | zero => intro l xs ws h; exact h
 | succ f ih =>
  intro l xs ws h
  cases l with
  | nil => exact h
  | cons s t =>
   rw [pparse]
   split
   ·exact ih _ _ _ h
   ·split
    ·exact List.Pairwise.nil
    ·dsimp only
     split
     ·split
      ·split
       ·exact List.Pairwise.nil
       ·rename_i hk
        refine ih _ _ _ (List.pairwise_append.2 ⟨h, List.pairwise_singleton _ _, fun a ha b hb => ?_⟩)
        rw [List.mem_singleton.1 hb]
        intro e
        exact hk (List.any_eq_true.2 ⟨a, ha, decide_eq_true e⟩)
      ·exact ih _ _ _ h
     ·exact List.Pairwise.nil
theorem told_apart (s : ByteArray) : Apart (toldOf s) := by
 unfold toldOf parseOf
 split
 ·exact List.Pairwise.nil
 ·exact pparse_apart _ _ _ _ List.Pairwise.nil
def wv (Ws : List S39) (V : List Int) (word : List Int) : List Int := match Ws.find? fun p => decide (p.f0 = word) with
 | some p => p.f1
 | none => V
theorem wordVals_wv (P Ws : List S39) (word : List Int) : wordVals P Ws word = wv Ws (Tr.values (Tr.make (P.map Tr.pq)) word) word := rfl
theorem rd39 {L : List S39} {i : Nat} (h : i < L.length) : rd_T39 L (i : Int) = L[i] := by simp [rd_T39, List.getD_eq_getElem?_getD, List.getElem?_eq_getElem h]
theorem wv_step {Ws : List S39} (ha : Apart Ws) (V word : List Int) (i : Nat) (hi : i < Ws.length) : wv (Ws.take (i + 1)) V word = if (rd_T39 Ws (i : Int)).f0 = word then (rd_T39 Ws (i : Int)).f1 else wv (Ws.take i) V word := by
 rw [rd39 hi]
 have ht : Ws.take (i + 1) = Ws.take i ++ [Ws[i]] := (List.take_append_getElem hi).symm
 unfold wv
 rw [ht, List.find?_append]
 by_cases h : Ws[i].f0 = word
 ·have hn : (Ws.take i).find? (fun p => decide (p.f0 = word)) = none := by
   rw [List.find?_eq_none]
   intro p hp
   obtain ⟨j, hj, rfl⟩ := List.getElem_of_mem hp
   rw [List.length_take] at hj
   rw [List.getElem_take]
   have := List.pairwise_iff_getElem.1 ha j i (by omega) hi (by omega)
   rw [h] at this
   simpa using this
  rw [hn, if_pos h]
  simp [h]
 ·rw [if_neg h]
  have hs : List.find? (fun p => decide (p.f0 = word)) [Ws[i]] = none := by simp [h]
  rw [hs, Option.or_none]
theorem wlast_wv (V word : List Int) (Ws : List S39) : Apart Ws → wlast Ws V word = wv Ws V word := by
 have key : ∀ (d i : Nat), Apart Ws → Ws.length - i = d → i ≤ Ws.length → wlast (Ws.drop i) (wv (Ws.take i) V word) word = wv Ws V word := by
  intro d
  induction d with
  | zero =>
   intro i _ hd hi
   rw [List.drop_eq_nil_of_le (by omega), List.take_of_length_le (by omega)]
   rfl
  | succ d ih =>
   intro i ha hd hi
   have hil : i < Ws.length := by omega
   rw [getD39 hil, wlast]
   have hs := wv_step ha V word i hil
   have := ih (i + 1) ha (by omega) (by omega)
   rw [hs] at this
   exact this
 intro ha
 exact key Ws.length 0 ha (by omega) (Nat.zero_le _)
theorem rword_eq (s : ByteArray) (ls : List S63) (left right : Int) (word : List Int) (hw : Tr.Word word) (k : Nat) (_hk : 3000 ≤ k) :
  stanzaref07_Hyphens_Word.f k (patsOf s) (toldOf s) ls left right word = some (pts (wordVals (patsOf s) (toldOf s) word) word.length left right) := by
 obtain ⟨g1, g2, g3⟩ := parseOf_good s
 have hn := hw.1
 unfold stanzaref07_Hyphens_Word.f
 rw [if_pos, ← Tr.values_ref _ (parseOf_fit s).nn, wlast_wv _ _ _ (told_apart s), wordVals_wv]
 rw [wfits, Bool.and_eq_true, Bool.and_eq_true, decide_eq_true_eq, List.all_eq_true]
 refine ⟨?_, hn, fun p hp => decide_eq_true (g2 p hp).2.1⟩
 rw [fitsB, Bool.and_eq_true, decide_eq_true_eq, List.all_eq_true]
 refine ⟨by omega, fun p hp => ?_⟩
 have h1 := (g1 p hp).1
 have h2 := (g1 p hp).2.1
 rw [Bool.and_eq_true, decide_eq_true_eq, decide_eq_true_eq]
 omega
end Go.Proofs.Ytoefjhdcipgacaa.Hy
end
section
namespace Go.Proofs.Ytoefjhdcipgacaa.Hy
open Go.RowKit Go.Proofs.YtoefjhdcipgacaaW.PrintWords Go.Proofs.YtoefjhdcipgacaaW.PrintLast Go.Proofs.YtoefjhdcipgacaaW.PrintMore
open Go.Proofs.Ytoefjhdcipgacaa.PA Go.Proofs.Ytoefjhdcipgacaa.Dec
theorem set_mid {α : Type} (A B C : List α) (c d : α) : (A ++ B ++ c :: C).set (A.length + B.length) d = A ++ (B ++ [d]) ++ C := by
 rw [← List.length_append, List.set_append_right _ _ (Nat.le_refl _), Nat.sub_self, List.set_cons_zero]
 simp
theorem take_rdOf' (D : List Bool) (k : Nat) (hk : k < D.length) : D.take (k + 1) = D.take k ++ [rdOf false D (k : Int)] := by
 rw [rdOf, Int.toNat_natCast, List.getD_eq_getElem?_getD, List.getElem?_eq_getElem hk, Option.getD_some, List.take_append_getElem hk]
section
variable {P Ws : List S39} {ls : List S63} {left right : Int}
theorem rp_l2 (l : List S66) (bs p : List Bool) (word : List Int) (i : Nat) (x8 : Int) (_hl : l.length ≤ 100000) (hb : i + word.length ≤ bs.length) (hbl : bs.length ≤ 200000) (hp : p.length = word.length + 1) (d : Nat) : ∀ (n k : Nat), word.length - n = d → n ≤ word.length →
  stanzaref07_Hyphens_Points.l2 (k + d + 1) l (bs.take i ++ p.take n ++ bs.drop (i + n)) (i : Int) word x8 p (n : Int) P Ws ls left right = stanzaref07_Hyphens_Points.l0 k l (bs.take i ++ p.take word.length ++ bs.drop (i + word.length)) (wrap64 (x8 + 1)) P Ws ls left right := by
 induction d with
 | zero =>
  intro n k hd hn
  have : n = word.length := by omega
  subst this
  rw [show k + 0 + 1 = k + 1 from rfl, stanzaref07_Hyphens_Points.l2.eq_2, if_neg (by omega)]
 | succ d ih =>
  intro n k hd hn
  have htl : (bs.take i).length = i := by rw [List.length_take]; omega
  have hpl : (p.take n).length = n := by rw [List.length_take]; omega
  have E1 : Aside0 (wrap64 ((n : Int) + 1) = ((n + 1 : Nat) : Int)) := ⟨by rw [w64 _ ⟨by omega, by omega⟩]; rfl⟩
  have E2 : Aside0 (wrap64 ((i : Int) + (n : Int)) = ((i + n : Nat) : Int)) := ⟨by rw [w64 _ ⟨by omega, by omega⟩]; rfl⟩
  have hlen : (bs.take i ++ p.take n ++ bs.drop (i + n)).length = bs.length := by rw [List.length_append, List.length_append, htl, hpl, List.length_drop]; omega
  rw [show k + (d + 1) + 1 = (k + d + 1) + 1 by omega, stanzaref07_Hyphens_Points.l2.eq_2, E1.out, E2.out, hlen, if_pos (by omega), if_pos (by omega), if_pos (by omega), if_pos (by omega), if_pos (by omega), Int.toNat_natCast]
  have hdr : bs.drop (i + n) = bs[i + n]'(by omega) :: bs.drop (i + n + 1) := List.drop_eq_getElem_cons (by omega)
  rw [hdr]
  have hs := set_mid (bs.take i) (p.take n) (bs.drop (i + n + 1)) (bs[i + n]'(by omega)) (rdOf false p (n : Int))
  rw [htl, hpl] at hs
  rw [hs, ← take_rdOf' p n (by omega)]
  exact ih (n + 1) k (by omega) (by omega)
theorem rp_copy (l : List S66) (bs p : List Bool) (word : List Int) (i : Nat) (x8 : Int) (hl : l.length ≤ 100000) (hb : i + word.length ≤ bs.length) (hbl : bs.length ≤ 200000) (hp : p.length = word.length + 1) (hp0 : p.getD 0 false = false) (hbi : bs.getD i false = false) (k : Nat) :
  ∃ k', k ≤ k' ∧ stanzaref07_Hyphens_Points.l2 (k + word.length + 1) l bs (i : Int) word x8 p 1 P Ws ls left right = stanzaref07_Hyphens_Points.l0 k' l (bs.take i ++ p.take word.length ++ bs.drop (i + word.length)) (wrap64 (x8 + 1)) P Ws ls left right := by
 rcases Nat.eq_zero_or_pos word.length with h0 | h0
 ·refine ⟨k, Nat.le_refl _, ?_⟩
  rw [h0, show k + 0 + 1 = k + 1 from rfl, stanzaref07_Hyphens_Points.l2.eq_2, if_neg (by omega), List.take_zero, List.append_nil, Nat.add_zero, List.take_append_drop]
 ·refine ⟨k + 1, by omega, ?_⟩
  have e : bs = bs.take i ++ p.take 1 ++ bs.drop (i + 1) := by
   have hi : i < bs.length := by omega
   have h1 : p.take 1 = [false] := by
    cases p with
    | nil => simp at hp
    | cons a t => simpa using hp0
   rw [List.getD_eq_getElem?_getD, List.getElem?_eq_getElem hi, Option.getD_some] at hbi
   have h2 : bs.take i ++ [false] = bs.take (i + 1) := by rw [← hbi]; exact List.take_append_getElem hi
   rw [h1, h2, List.take_append_drop]
  have := rp_l2 (P := P) (Ws := Ws) (ls := ls) (left := left) (right := right) l bs p word i x8 hl hb hbl hp (word.length - 1) 1 (k + 1) rfl h0
  rw [← e, show k + 1 + (word.length - 1) + 1 = k + word.length + 1 by omega] at this
  exact this
theorem rp_l1 (hok : LsOk ls) (l : List S66) (hl : l.length ≤ 100000) (h32 : ∀ s ∈ l, Tr.In32 s.f0) (bs : List Bool) (i : Int) (t : List S66) : ∀ (j k : Nat) (word : List Int), l.drop j = t → j ≤ l.length → word.length ≤ j → 300 ≤ k →
  ∃ k', k ≤ k' ∧ stanzaref07_Hyphens_Points.l1 (k + 1 + t.length) l bs i word (j : Int) P Ws ls left right = stanzaref07_Hyphens_Points.j2 k' l bs i (word ++ runOf ls t) ((j + (runOf ls t).length : Nat) : Int) P Ws ls left right := by
 induction t with
 | nil =>
  intro j k word hd hj hw hk
  have hjl : j = l.length := by
   have : (l.drop j).length = 0 := by rw [hd]; rfl
   rw [List.length_drop] at this; omega
  refine ⟨k, Nat.le_refl _, ?_⟩
  show stanzaref07_Hyphens_Points.l1 (k + 1) l bs i word (j : Int) P Ws ls left right = _
  rw [stanzaref07_Hyphens_Points.l1.eq_2, if_neg (by omega), runOf, List.append_nil]
  rfl
 | cons s t ih =>
  intro j k word hd hj hw hk
  have hjl : j < l.length := by
   rcases Nat.lt_or_ge j l.length with h | h
   ·exact h
   ·rw [List.drop_eq_nil_of_le h] at hd; cases hd
  have hd2 := hd
  rw [List.drop_eq_getElem_cons hjl] at hd2
  injection hd2 with hs1 hd2
  have hs32 := h32 s (by rw [← hs1]; exact List.getElem_mem hjl)
  show ∃ k', k ≤ k' ∧ stanzaref07_Hyphens_Points.l1 (k + 1 + t.length + 1) l bs i word (j : Int) P Ws ls left right = _
  rw [stanzaref07_Hyphens_Points.l1.eq_2, if_pos (by omega), if_pos (by omega), rd66' hjl, hs1, refLet_eq hok _ hs32 _ (by omega), Option.bind_some, runOf]
  by_cases hb : (letOf ls s.f0).2 = true
  ·rw [if_pos hb, if_pos hb, if_pos (by omega), w64 _ ⟨by omega, by omega⟩]
   obtain ⟨k', h1, h2⟩ := ih (j + 1) k (word ++ [(letOf ls s.f0).1]) hd2 (by omega) (by rw [List.length_append, List.length_singleton]; omega) hk
   refine ⟨k', h1, ?_⟩
   rw [show ((j : Int) + 1) = ((j + 1 : Nat) : Int) by omega, h2, List.length_cons, List.append_assoc, show j + ((runOf ls t).length + 1) = j + 1 + (runOf ls t).length by omega]
   rfl
  ·rw [if_neg hb, if_neg hb, List.append_nil]
   exact ⟨k + 1 + t.length, by omega, rfl⟩
end
theorem rp_run (s : ByteArray) {ls : List S63} {left right : Int} (hok : LsOk ls) (hle : 1 ≤ left) (l : List S66) (hl : l.length ≤ 1000) (h32 : ∀ x ∈ l, Tr.In32 x.f0) (m : Nat) : ∀ (i k : Nat) (bs : List Bool), l.length + 1 - i ≤ m → PInv ls (patsOf s) (toldOf s) left right l i bs → 5000 * (m + 1) ≤ k →
  stanzaref07_Hyphens_Points.l0 k l bs (i : Int) (patsOf s) (toldOf s) ls left right = some (pointsOf ls (patsOf s) (toldOf s) left right l.length l) := by
 induction m with
 | zero =>
  intro i k bs hm hI hk
  obtain ⟨k, rfl⟩ : ∃ k', k = k' + 1 := ⟨k - 1, by omega⟩
  rw [stanzaref07_Hyphens_Points.l0.eq_2, if_neg (by omega), pinv_end hI (by omega)]
 | succ m ih =>
  intro i k bs hm hI hk
  obtain ⟨k, rfl⟩ : ∃ k', k = k' + 1 := ⟨k - 1, by omega⟩
  rcases Nat.lt_or_ge i l.length with hi | hi
  ·obtain ⟨word, hw⟩ : ∃ word, word = runOf ls (l.drop i) := ⟨_, rfl⟩
   have hwl : word.length ≤ l.length - i := by rw [hw]; have := runOf_le ls (l.drop i); rw [List.length_drop] at this; exact this
   have hwd : Tr.Word word := by rw [hw]; exact run_word hok _ (by rw [← hw]; omega)
   have hdl : (l.drop i).length = l.length - i := List.length_drop
   obtain ⟨k1, h1, h2⟩ := rp_l1 (P := patsOf s) (Ws := toldOf s) (left := left) (right := right) hok l (by omega) h32 bs (i : Int) (l.drop i) i (k - 1 - (l.drop i).length) [] rfl (by omega) (Nat.zero_le _) (by omega)
   rw [show k - 1 - (l.drop i).length + 1 + (l.drop i).length = k by omega, List.nil_append, ← hw] at h2
   rw [stanzaref07_Hyphens_Points.l0.eq_2, if_pos (by omega), h2]
   obtain ⟨k2, rfl⟩ : ∃ k', k1 = k' + 1 := ⟨k1 - 1, by omega⟩
   have hpl := pts_length (wordVals (patsOf s) (toldOf s) word) word.length left right
   have hbl := hI.1
   rw [stanzaref07_Hyphens_Points.j2.eq_2, rword_eq s ls left right word hwd k2 (by omega), Option.bind_some]
   obtain ⟨k3, h3, h4⟩ := rp_copy (P := patsOf s) (Ws := toldOf s) (ls := ls) (left := left) (right := right) l bs (pts (wordVals (patsOf s) (toldOf s) word) word.length left right) word i ((i + word.length : Nat) : Int) (by omega) (by omega) (by omega) hpl
    (by rw [pts_getD _ _ _ _ _ (by omega), ptAt, decide_eq_false (by omega), Bool.false_and]) (hI.2.1 i (Nat.le_refl _)) (k2 - word.length - 1)
   rw [show k2 - word.length - 1 + word.length + 1 = k2 by omega] at h4
   rw [h4, w64 _ ⟨by omega, by omega⟩]
   exact ih (i + word.length + 1) k3 _ (by omega) (pinv_step hI hi hw rfl) (by omega)
  ·rw [stanzaref07_Hyphens_Points.l0.eq_2, if_neg (by omega), pinv_end hI hi]
theorem rpoints_eq (s : ByteArray) {ls : List S63} {left right : Int} (hok : LsOk ls) (hle : 1 ≤ left) (l : List S66) (hl : l.length ≤ 1000) (h32 : ∀ x ∈ l, Tr.In32 x.f0) (k : Nat) (hk : 6000000 ≤ k) :
  stanzaref07_Hyphens_Points.f k (patsOf s) (toldOf s) ls left right l = some (pointsOf ls (patsOf s) (toldOf s) left right l.length l) := by
 unfold stanzaref07_Hyphens_Points.f
 rw [w64 _ ⟨by omega, by omega⟩, if_pos (by omega), if_pos (by omega), show ((l.length : Int) + 1).toNat = l.length + 1 by omega]
 exact rp_run s hok hle l hl h32 (l.length + 1) 0 k _ (by omega) (pinv_start rfl) (by omega)
end Go.Proofs.Ytoefjhdcipgacaa.Hy
end
section
namespace Go.Proofs.Ytoefjhdcipgacaa.Hy
open Go.RowKit Go.Proofs.YtoefjhdcipgacaaW.PrintWords Go.Proofs.YtoefjhdcipgacaaW.PrintLast Go.Proofs.YtoefjhdcipgacaaW.PrintMore
open Go.Proofs.Ytoefjhdcipgacaa.PA Go.Proofs.Ytoefjhdcipgacaa.Dec
attribute [local go_sem] max2_int min2_int max_two min_two
set_option linter.unusedSimpArgs false
set_option linter.unusedVariables false
set_option maxHeartbeats 8000000 in
set_option maxRecDepth 100000 in
theorem points_walk (s : ByteArray) (rs : List S63) (A : Option Addr) (c : Nat) (tx : List Int) (At : Option Addr) (ct : Nat) (left right : Int) (w : World) (hs : s.size ≤ 140737488351232) (hl : Kd.C k63 w A rs.length rs) (hlc : rs.length ≤ c) (_hq : ∀ x ∈ rs, Tr.In32 x.f0 ∧ Tr.In32 x.f1 ∧ -9223372036854775808 ≤ x.f2 ∧ x.f2 ≤ 9223372036854775807)
  (ht : Kd.C (Kd.int .u8) w At tx.length tx) (htc : tx.length ≤ ct) (hby : ∀ r ∈ tx, 0 ≤ r ∧ r ≤ 255) (hle : 0 ≤ left ∧ left ≤ 255) (hri : 0 ≤ right ∧ right ≤ 255) :
  Calls Try.prog 6 #[.string s, .slice A rs.length c, .slice At tx.length ct, .int .u8 left, .int .u8 right] w fun e w' => e = .returned (.bool true) ∧ Below w.heap.size w w' := by
 have HTM := Aside0.mk (Kd.C_max ht)
 have HL := Aside0.mk hl
 have HLc := Aside0.mk hlc
 have HTX := Aside0.mk ht
 have HTXc := Aside0.mk htc
 have HBY := Aside0.mk hby
 clear hl hlc _hq ht htc hby
 by_cases hsz : 3000 < s.size
 ·have hsz' : 3000 < (s.size : Int) := by omega
  clear hsz
  go_enter Try.func6, Try.ntmps6
  go_wp2_with (go_at_call 24; refine (awake09_calls _).mono ?_; rintro e wa ⟨rfl, hb⟩; have HB := Aside0.mk hb; clear hb)
  go_ret
  exact ⟨rfl, HB.out⟩
 by_cases h5 : 500 < tx.length
 ·have hsz' : ¬ 3000 < (s.size : Int) := by omega
  have h5' : 500 < (tx.length : Int) := by omega
  clear hsz h5
  go_enter Try.func6, Try.ntmps6
  go_wp2_with (go_at_call 24; refine (awake09_calls _).mono ?_; rintro e wa ⟨rfl, hb⟩; have HB := Aside0.mk hb; clear hb)
  go_ret
  exact ⟨rfl, HB.out⟩
 have hsz' : ¬ 3000 < (s.size : Int) := by omega
 have h5' : ¬ 500 < (tx.length : Int) := by omega
 clear hsz
 obtain ⟨x, hx⟩ : ∃ x, x = 1 + left % 5 := ⟨_, rfl⟩
 obtain ⟨y, hy⟩ : ∃ y, y = 1 + right % 5 := ⟨_, rfl⟩
 have bx : 1 ≤ x ∧ x ≤ 24 := by omega
 have by_ : 1 ≤ y ∧ y ≤ 24 := by omega
 have HX := Aside0.mk hx
 have HY := Aside0.mk hy
 obtain ⟨L, hL⟩ : ∃ L, L = lettersM rs := ⟨_, rfl⟩
 have HLE : Aside0 (stanzalaw09_letters.f 100 rs = some L) := ⟨by rw [hL]; exact letters_eq rs⟩
 have HOK : Aside0 (LsOk L) := ⟨by rw [hL]; exact lettersM_ok rs⟩
 have HCK : Aside0 (hyph_Check.f 40000 L = some true) := ⟨check_ok HOK.out _ (by decide)⟩
 have HCL : Aside0 (stanzaref07_Letters.f RK L = some true) := ⟨by rw [letters_f L RK (by decide), ← check_eq L 40000 (by decide)]; exact HCK.out⟩
 have HL8 : Aside0 (L.length ≤ 1000000) := ⟨Nat.le_trans HOK.out.1 (by decide)⟩
 obtain ⟨SG, hSG⟩ : ∃ SG, SG = decAll tx tx.length 0 := ⟨_, rfl⟩
 have hIB : IsBytes tx := fun r hr => by have := HBY.out r hr; omega
 have HSGE : Aside0 (stanzaref01_All.f 1000 tx = some SG) := ⟨by rw [hSG]; exact rall_eq hIB (by omega) 1000 (by omega)⟩
 have hSGl : SG.length ≤ 1000 := by rw [hSG]; have := decAll_len tx tx.length 0; omega
 have HSG1 : Aside0 (SG.length ≤ 100000) := ⟨by omega⟩
 have HSGL := Aside0.mk hSGl
 have HSG3 : Aside0 (∀ z ∈ SG, Tr.In32 z.f0) := ⟨fun z hz => by rw [hSG] at hz; have := decAll_in hIB _ _ z hz; exact ⟨by omega, by omega⟩⟩
 have HRUN : Aside0 (∀ i, Tr.Word (runOf L (SG.drop i))) := ⟨fun i => run_word HOK.out _ (by have := runOf_le L (SG.drop i); rw [List.length_drop] at this; omega)⟩
 clear hx hy hL hSG hIB hSGl h5
 go_enter Try.func6, Try.ntmps6
 go_upto_region 6 with (first
  | (go_at_call 24; refine (awake09_calls _).mono ?_; rintro e wa ⟨rfl, hb⟩; have HB := Aside0.mk hb; clear hb)
  | (go_at_call 25; refine (stanzalaw09_letters.calls 100 A c rs L _ (Kd.C_below HL.out HB.out) HLc.out HLE.out).mono ?_; rintro e wl ⟨v, rfl, hr, hb⟩; obtain ⟨AL, cL, hv_, hl_, hc_⟩ := Kd.R_reads hr; subst hv_; have HLLl := Aside0.mk hl_; have HLLc := Aside0.mk hc_; replace HB := Aside0.mk (below_step HB.out hb); clear hb hr hl_ hc_))
 go_cut [11, 12] (fun v11 v12 wc => wc = wl ∧ v11 = .int .i64 x ∧ v12 = .int .i64 y)
 case first =>
  go_wp2_with fail
  go_meet
  case rel => exact ⟨rfl, by rw [HX.out], by rw [HY.out]⟩
 case rest =>
  obtain ⟨rfl, rfl, rfl⟩ := hcut
  rename World => wv
  clear HX HY
  by_cases hc : codeOf s = 0
  case neg =>
   obtain ⟨code, hcode⟩ : ∃ code, code = codeOf s := ⟨_, rfl⟩
   obtain ⟨at_, hat⟩ : ∃ at_, at_ = atOf s := ⟨_, rfl⟩
   have HCO := Aside0.mk hc
   have hne : code ≠ 0 := by rw [hcode]; exact hc
   have hne2 : (code != 0) = true := by simpa using hne
   have HCD := Aside0.mk hcode.symm
   have HAT := Aside0.mk hat.symm
   clear hcode hat hc
   go_upto_region 7 with fail
   go_cut [13, 14] (fun v13 v14 wc => ∃ g14, v13 = .pointer none ∧ v14 = .pointer (some ⟨g14, 0, none⟩) ∧ Aside0 (wc.heap[g14]? = some (.cells #[.int .i64 code, .int .i64 at_] 46 (0, 0))) ∧ Aside0 (Kd.C k63 wc AL L.length L) ∧ Aside0 (Below w.heap.size w wc))
   case first =>
    go_wp2_with (first
     | (go_at_call 26; refine (newB s AL cL L x y _ HLLc.out HLLl.out HCK.out bx by_ HCO.out).mono ?_; rintro e wb ⟨rfl, hb⟩; rw [HCD.out, HAT.out]; replace HLLc := Aside0.mk (Kd.C_below HLLc.out hb); replace HB := Aside0.mk (below_step HB.out hb); clear hb)
     | ((with_reducible refine gate_dst (N := 14) rfl ?_); refine box_event ?hg (N := 14) ?hd (cs := #[.int .i64 0, .int .i64 0]) (t := 46) ?hr ?_; (case hd => rfl); (case hg => rfl); (case hr => first | (go_simp; done) | (go_simp; rfl)); intro g14 hg w9 hbox hb; have BK14 := Aside0.mk hbox; have GE14 := Aside0.mk (by rw [hg]; exact below_size HB.out : w.heap.size ≤ g14); have GH := Aside0.mk (Nat.le_of_eq hg.symm : wb.heap.size ≤ g14); have HBb := Aside0.mk hb; replace HB := Aside0.mk (below_step HB.out hb); have hcz0 : w9.cell? ⟨g14, 0, none⟩ = some (.int .i64 0) := (blk_cell BK14.out 0).trans rfl; have hcz1 : w9.cell? ⟨g14, 1, none⟩ = some (.int .i64 0) := (blk_cell BK14.out 1).trans rfl; have hcf0 := blk_frozen BK14.out 0; have hcf1 := blk_frozen BK14.out 1; clear hb hbox hg))
    go_meet
    case rel => exact ⟨g14, rfl, rfl, ⟨blk_put (cs := #[.int .i64 code, .int .i64 0]) (blk_put (cs := #[.int .i64 0, .int .i64 0]) (BK14.out) 0 _ rfl) 1 _ rfl⟩, ⟨Kd.C_below HLLc.out (below_set (below_set HBb.out GH.out) GH.out)⟩, ⟨below_set (below_set (HB.out) GE14.out) GE14.out⟩⟩
   case rest =>
    obtain ⟨g14, rfl, rfl, BK14, HLLc', HB'⟩ := hcut
    clear HB HLLc
    have HB := HB'
    have HLLc := HLLc'
    clear HB' HLLc'
    rename World => wz
    go_upto_region 8 with fail
    go_cut [16] (fun v16 wd => v16 = .int .i64 code ∧ Aside0 (wd.heap[g14]? = some (.cells #[.int .i64 code, .int .i64 at_] 46 (0, 0))) ∧ Aside0 (Below w.heap.size w wd))
    case first =>
     go_wp2_with (first
      | (go_at_call 27; refine (rnew_bad3 RK s AL cL L x y (patsOf s) (toldOf s) (codeOf s) (atOf s) _ HLLc.out HLLl.out HCL.out (by omega) (by omega) (by omega) (by omega) (rparse_eq s RK (Nat.le_refl _)) HCO.out).mono ?_; rintro e wb ⟨rfl, hb⟩; rw [HCD.out, HAT.out]; replace BK14 := Aside0.mk (blk_below BK14.out hb); replace HB := Aside0.mk (below_step HB.out hb); clear hb)
      | ((with_reducible refine gate_dst (N := 15) rfl ?_); refine box_event ?hg (N := 15) ?hd (cs := #[.slice none 0 0, .slice none 0 0, .slice none 0 0, .int .i64 0, .int .i64 0]) (t := 52) ?hr ?_; (case hd => rfl); (case hg => rfl); (case hr => first | (go_simp; done) | (go_simp; rfl)); intro g15 hg w9 hbox hb; have NB := Aside0.mk (by rw [hg]; exact Nat.ne_of_gt (blk_lt BK14.out) : g15 ≠ g14); have GE15 := Aside0.mk (by rw [hg]; exact below_size HB.out : w.heap.size ≤ g15); have GH := Aside0.mk (Nat.le_of_eq hg.symm : wb.heap.size ≤ g15); have HBb := Aside0.mk hb; replace BK14 := Aside0.mk (blk_below BK14.out hb); have BK15 := Aside0.mk hbox; replace HB := Aside0.mk (below_step HB.out hb); have hdz0 : w9.cell? ⟨g15, 0, none⟩ = some (.slice none 0 0) := (blk_cell BK15.out 0).trans rfl; have hdz1 : w9.cell? ⟨g15, 1, none⟩ = some (.slice none 0 0) := (blk_cell BK15.out 1).trans rfl; have hdz2 : w9.cell? ⟨g15, 2, none⟩ = some (.slice none 0 0) := (blk_cell BK15.out 2).trans rfl; have hdz3 : w9.cell? ⟨g15, 3, none⟩ = some (.int .i64 0) := (blk_cell BK15.out 3).trans rfl; have hdz4 : w9.cell? ⟨g15, 4, none⟩ = some (.int .i64 0) := (blk_cell BK15.out 4).trans rfl; have hdf0 := blk_frozen BK15.out 0; have hdf1 := blk_frozen BK15.out 1; have hdf2 := blk_frozen BK15.out 2; have hdf3 := blk_frozen BK15.out 3; have hdf4 := blk_frozen BK15.out 4; clear hb hbox hg))
     go_meet
     case rel => exact ⟨rfl, ⟨blk_far (blk_far (blk_far (blk_far (blk_far (BK14.out) (Ne.symm NB.out) _) (Ne.symm NB.out) _) (Ne.symm NB.out) _) (Ne.symm NB.out) _) (Ne.symm NB.out) _⟩, ⟨below_set (below_set (below_set (below_set (below_set (HB.out) GE15.out) GE15.out) GE15.out) GE15.out) GE15.out⟩⟩
    case rest =>
     obtain ⟨rfl, BK14', HB'⟩ := hcut
     rename World => wy
     have q0 : wy.cell? ⟨g14, 0, none⟩ = some (.int .i64 code) := (blk_cell BK14'.out 0).trans rfl
     go_wp2_with fail
     go_ret
     exact ⟨by simp, HB'.out⟩
  case pos =>
   have HCO := Aside0.mk hc
   have HRP : Aside0 (stanzaref07_Parse.f RK s = some (patsOf s, toldOf s, 0, atOf s)) := ⟨by rw [rparse_eq s RK (Nat.le_refl _), ← hc]⟩
   clear hc
   go_upto_region 7 with fail
   go_cut [13, 14] (fun v13 v14 wc => ∃ b La Lc bt base Wa Wc g14, v13 = .pointer (some ⟨b, 0, none⟩) ∧ v14 = .pointer (some ⟨g14, 0, none⟩) ∧ Aside0 (HyphAt wc b L (Tr.make ((patsOf s).map Tr.pq)) (toldOf s) x y La Lc bt base Wa Wc) ∧ Aside0 (wc.heap[g14]? = some (.cells #[.int .i64 0, .int .i64 0] 46 (0, 0))) ∧ Aside0 (Kd.C k63 wc AL L.length L) ∧ Aside0 (Below w.heap.size w wc))
   case first =>
    go_wp2_with (first
     | (go_at_call 26; refine (newC s AL cL L x y _ HLLc.out HLLl.out HL8.out HCK.out bx by_ HCO.out).mono ?_; rintro e wb ⟨b, La, Lc, bt, base, Wa, Wc, rfl, hH, hb⟩; have HH := Aside0.mk hH; replace HLLc := Aside0.mk (Kd.C_below HLLc.out hb); replace HB := Aside0.mk (below_step HB.out hb); clear hb hH)
     | ((with_reducible refine gate_dst (N := 14) rfl ?_); refine box_event ?hg (N := 14) ?hd (cs := #[.int .i64 0, .int .i64 0]) (t := 46) ?hr ?_; (case hd => rfl); (case hg => rfl); (case hr => first | (go_simp; done) | (go_simp; rfl)); intro g14 hg w9 hbox hb; have BK14 := Aside0.mk hbox; have GE14 := Aside0.mk (by rw [hg]; exact below_size HB.out : w.heap.size ≤ g14); have GH := Aside0.mk (Nat.le_of_eq hg.symm : wb.heap.size ≤ g14); have HBb := Aside0.mk hb; replace HB := Aside0.mk (below_step HB.out hb); have hcz0 : w9.cell? ⟨g14, 0, none⟩ = some (.int .i64 0) := (blk_cell BK14.out 0).trans rfl; have hcz1 : w9.cell? ⟨g14, 1, none⟩ = some (.int .i64 0) := (blk_cell BK14.out 1).trans rfl; have hcf0 := blk_frozen BK14.out 0; have hcf1 := blk_frozen BK14.out 1; clear hb hbox hg))
    go_meet
    case rel => exact ⟨b, La, Lc, bt, base, Wa, Wc, g14, rfl, rfl, ⟨HH.out.below (below_set (below_set HBb.out GH.out) GH.out)⟩, ⟨blk_put (cs := #[.int .i64 0, .int .i64 0]) (blk_put (cs := #[.int .i64 0, .int .i64 0]) (BK14.out) 0 _ rfl) 1 _ rfl⟩, ⟨Kd.C_below HLLc.out (below_set (below_set HBb.out GH.out) GH.out)⟩, ⟨below_set (below_set (HB.out) GE14.out) GE14.out⟩⟩
   case rest =>
    obtain ⟨b, La, Lc, bt, base, Wa, Wc, g14, rfl, rfl, HH, BK14, HLLc', HB'⟩ := hcut
    clear HB HLLc
    have HB := HB'
    have HLLc := HLLc'
    clear HB' HLLc'
    rename World => wz
    go_upto_region 8 with fail
    go_cut [15, 16, 17] (fun v15 v16 v17 wd => ∃ g15 Ap cp Aw cw, v15 = .pointer (some ⟨g15, 0, none⟩) ∧ v16 = .int .i64 0 ∧ v17 = .int .i64 0 ∧ Aside0 (wd.heap[g15]? = some (.cells #[.slice Ap (patsOf s).length cp, .slice Aw (toldOf s).length cw, .slice AL L.length cL, .int .i64 x, .int .i64 y] 52 (0, 0))) ∧ Aside0 (Kd.C k39 wd Ap (patsOf s).length (patsOf s)) ∧ Aside0 ((patsOf s).length ≤ cp) ∧ Aside0 (Kd.C k39 wd Aw (toldOf s).length (toldOf s)) ∧ Aside0 ((toldOf s).length ≤ cw) ∧ Aside0 (Kd.C k63 wd AL L.length L) ∧ Aside0 (HyphAt wd b L (Tr.make ((patsOf s).map Tr.pq)) (toldOf s) x y La Lc bt base Wa Wc) ∧ Aside0 (wd.heap[g14]? = some (.cells #[.int .i64 0, .int .i64 0] 46 (0, 0))) ∧ Aside0 (Below w.heap.size w wd))
    case first =>
     go_wp2_with (first
      | (go_at_call 27; refine (rnew_ok RK s AL cL L x y (patsOf s) (toldOf s) (atOf s) _ HLLc.out HLLl.out HCL.out (by omega) (by omega) (by omega) (by omega) HRP.out).mono ?_; rintro e wb ⟨Ap, cp, Aw, cw, rfl, hp1, hp2, hp3, hp4, hb⟩; have HP := Aside0.mk hp1; have HPc := Aside0.mk hp2; have HT := Aside0.mk hp3; have HTc := Aside0.mk hp4; replace HLLc := Aside0.mk (Kd.C_below HLLc.out hb); replace HH := Aside0.mk (HH.out.below hb); replace BK14 := Aside0.mk (blk_below BK14.out hb); replace HB := Aside0.mk (below_step HB.out hb); clear hb hp1 hp2 hp3 hp4)
      | ((with_reducible refine gate_dst (N := 15) rfl ?_); refine box_event ?hg (N := 15) ?hd (cs := #[.slice none 0 0, .slice none 0 0, .slice none 0 0, .int .i64 0, .int .i64 0]) (t := 52) ?hr ?_; (case hd => rfl); (case hg => rfl); (case hr => first | (go_simp; done) | (go_simp; rfl)); intro g15 hg w9 hbox hb; have NB := Aside0.mk (by rw [hg]; exact Nat.ne_of_gt (blk_lt BK14.out) : g15 ≠ g14); have GE15 := Aside0.mk (by rw [hg]; exact below_size HB.out : w.heap.size ≤ g15); have GH := Aside0.mk (Nat.le_of_eq hg.symm : wb.heap.size ≤ g15); have HBb := Aside0.mk hb; replace BK14 := Aside0.mk (blk_below BK14.out hb); have BK15 := Aside0.mk hbox; replace HB := Aside0.mk (below_step HB.out hb); have hdz0 : w9.cell? ⟨g15, 0, none⟩ = some (.slice none 0 0) := (blk_cell BK15.out 0).trans rfl; have hdz1 : w9.cell? ⟨g15, 1, none⟩ = some (.slice none 0 0) := (blk_cell BK15.out 1).trans rfl; have hdz2 : w9.cell? ⟨g15, 2, none⟩ = some (.slice none 0 0) := (blk_cell BK15.out 2).trans rfl; have hdz3 : w9.cell? ⟨g15, 3, none⟩ = some (.int .i64 0) := (blk_cell BK15.out 3).trans rfl; have hdz4 : w9.cell? ⟨g15, 4, none⟩ = some (.int .i64 0) := (blk_cell BK15.out 4).trans rfl; have hdf0 := blk_frozen BK15.out 0; have hdf1 := blk_frozen BK15.out 1; have hdf2 := blk_frozen BK15.out 2; have hdf3 := blk_frozen BK15.out 3; have hdf4 := blk_frozen BK15.out 4; clear hb hbox hg))
     go_meet
     case rel =>
      exact ⟨g15, Ap, cp, Aw, cw, rfl, rfl, rfl, ⟨blk_put (cs := #[.slice Ap (patsOf s).length cp, .slice Aw (toldOf s).length cw, .slice AL L.length cL, .int .i64 x, .int .i64 0]) (blk_put (cs := #[.slice Ap (patsOf s).length cp, .slice Aw (toldOf s).length cw, .slice AL L.length cL, .int .i64 0, .int .i64 0]) (blk_put (cs := #[.slice Ap (patsOf s).length cp, .slice Aw (toldOf s).length cw, .slice none 0 0, .int .i64 0, .int .i64 0]) (blk_put (cs := #[.slice Ap (patsOf s).length cp, .slice none 0 0, .slice none 0 0, .int .i64 0, .int .i64 0]) (blk_put (cs := #[.slice none 0 0, .slice none 0 0, .slice none 0 0, .int .i64 0, .int .i64 0]) (BK15.out) 0 _ rfl) 1 _ rfl) 2 _ rfl) 3 _ rfl) 4 _ rfl⟩, ⟨Kd.C_below HP.out (below_set (below_set (below_set (below_set (below_set HBb.out GH.out) GH.out) GH.out) GH.out) GH.out)⟩, HPc, ⟨Kd.C_below HT.out (below_set (below_set (below_set (below_set (below_set HBb.out GH.out) GH.out) GH.out) GH.out) GH.out)⟩, HTc, ⟨Kd.C_below HLLc.out (below_set (below_set (below_set (below_set (below_set HBb.out GH.out) GH.out) GH.out) GH.out) GH.out)⟩, ⟨HH.out.below (below_set (below_set (below_set (below_set (below_set HBb.out GH.out) GH.out) GH.out) GH.out) GH.out)⟩, ⟨blk_far (blk_far (blk_far (blk_far (blk_far (BK14.out) (Ne.symm NB.out) _) (Ne.symm NB.out) _) (Ne.symm NB.out) _) (Ne.symm NB.out) _) (Ne.symm NB.out) _⟩, ⟨below_set (below_set (below_set (below_set (below_set (HB.out) GE15.out) GE15.out) GE15.out) GE15.out) GE15.out⟩⟩
    case rest =>
     obtain ⟨g15, Ap, cp, Aw, cw, rfl, rfl, rfl, BK15, HP, HPc, HT, HTc, HLLc', HH', BK14', HB'⟩ := hcut
     clear HB HH BK14 HLLc
     have HBw := HB'
     have HH := HH'
     have BK14 := BK14'
     have HLLc := HLLc'
     clear HB' HH' BK14' HLLc'
     rename World => w2
     have H2 := Aside0.mk (Below.refl w2.heap.size w2)
     go_upto_region 12 with (go_at_call 28; refine (stanzaref01_All.calls 1000 At ct tx SG _ (Kd.C_below HTX.out (below_step HBw.out H2.out)) HTXc.out HSGE.out).mono ?_; rintro e ws4 ⟨v, rfl, hr, hb⟩; obtain ⟨AS, cS, hv_, hl_, hc_⟩ := Kd.R_reads hr; subst hv_; have HSl := Aside0.mk hl_; have HSc := Aside0.mk hc_; replace H2 := Aside0.mk (below_step H2.out hb); clear hb hr hl_ hc_)
     have q14 : ws4.cell? ⟨g14, 0, none⟩ = some (.int .i64 0) := (blk_cell (blk_below BK14.out H2.out) 0).trans rfl
     have q15_0 : ws4.cell? ⟨g15, 0, none⟩ = some (.slice Ap (patsOf s).length cp) := (blk_cell (blk_below BK15.out H2.out) 0).trans rfl
     have q15_1 : ws4.cell? ⟨g15, 1, none⟩ = some (.slice Aw (toldOf s).length cw) := (blk_cell (blk_below BK15.out H2.out) 1).trans rfl
     have q15_2 : ws4.cell? ⟨g15, 2, none⟩ = some (.slice AL L.length cL) := (blk_cell (blk_below BK15.out H2.out) 2).trans rfl
     have q15_3 : ws4.cell? ⟨g15, 3, none⟩ = some (.int .i64 x) := (blk_cell (blk_below BK15.out H2.out) 3).trans rfl
     have q15_4 : ws4.cell? ⟨g15, 4, none⟩ = some (.int .i64 y) := (blk_cell (blk_below BK15.out H2.out) 4).trans rfl
     obtain ⟨PL, hPL⟩ : ∃ PL, PL = pointsOf L (patsOf s) (toldOf s) x y SG.length SG := ⟨_, rfl⟩
     have HPE := Aside0.mk hPL.symm
     have HRW : Aside0 (stanzaref07_Hyphens_Points.f 6000000 (patsOf s) (toldOf s) L x y SG = some PL) := ⟨by rw [hPL]; exact rpoints_eq s HOK.out bx.1 SG HSGL.out HSG3.out 6000000 (Nat.le_refl _)⟩
     have HSF : Aside0 (stanzaref07_SameBools.f 100002 PL PL = some true) := ⟨same_f _ (by have := HSGL.out; rw [hPL, pointsOf_length _ _ _ _ _ _ _ (Nat.le_refl _)]; omega)⟩
     replace HSc := Aside0.mk (Kd.C_drew HSc.out)
     replace H2 := Aside0.mk (below_drew H2.out)
     clear hPL
     go_cut [10] (fun v10 wc => v10 = .bool true ∧ Aside0 (Below w2.heap.size w2 wc))
     case first =>
      go_region_with (first
       | (go_at_call 30; refine Calls.mono (points_calls b L (patsOf s) (toldOf s) x y La Lc bt base Wa Wc AS cS SG _ (HH.out.below H2.out) HSc.out HSl.out (Dec.parseOf_fit s) HOK.out bx by_ (Dec.parseOf_told s) HSG1.out HRUN.out) ?_; rintro e wk ⟨v, rfl, hr, hb⟩; rw [HPE.out] at hr; obtain ⟨A1, c1, hv_, hl_, hc_⟩ := Kd.R_reads hr; subst hv_; have H1l := Aside0.mk hl_; have H1c := Aside0.mk hc_; replace HSc := Aside0.mk (Kd.C_below HSc.out hb); replace H2 := Aside0.mk (below_step H2.out hb); have HK15 := Aside0.mk (blk_below BK15.out H2.out); have hkz0 : wk.cell? ⟨g15, 0, none⟩ = some (.slice Ap (patsOf s).length cp) := (blk_cell HK15.out 0).trans rfl; have hkz1 : wk.cell? ⟨g15, 1, none⟩ = some (.slice Aw (toldOf s).length cw) := (blk_cell HK15.out 1).trans rfl; have hkz2 : wk.cell? ⟨g15, 2, none⟩ = some (.slice AL L.length cL) := (blk_cell HK15.out 2).trans rfl; have hkz3 : wk.cell? ⟨g15, 3, none⟩ = some (.int .i64 x) := (blk_cell HK15.out 3).trans rfl; have hkz4 : wk.cell? ⟨g15, 4, none⟩ = some (.int .i64 y) := (blk_cell HK15.out 4).trans rfl; have hkf0 := blk_frozen HK15.out 0; have hkf1 := blk_frozen HK15.out 1; have hkf2 := blk_frozen HK15.out 2; have hkf3 := blk_frozen HK15.out 3; have hkf4 := blk_frozen HK15.out 4; clear hb hr hl_ hc_)
       | (go_at_call 31; refine Calls.mono (stanzaref07_Hyphens_Points.calls 6000000 Ap cp (patsOf s) Aw cw (toldOf s) AL cL L x y AS cS SG PL _ (Kd.C_below HP.out H2.out) HPc.out (Kd.C_below HT.out H2.out) HTc.out (Kd.C_below HLLc.out H2.out) HLLl.out HSc.out HSl.out HRW.out) ?_; rintro e wq ⟨v, rfl, hr, hb⟩; obtain ⟨A2, c2, hv_, hl_, hc_⟩ := Kd.R_reads hr; subst hv_; have H2l := Aside0.mk hl_; have H2c := Aside0.mk hc_; replace H1c := Aside0.mk (Kd.C_below H1c.out hb); replace H2 := Aside0.mk (below_step H2.out hb); clear hb hr hl_ hc_)
       | (go_at_call 29; refine Calls.mono (stanzaref07_SameBools.calls 100002 A1 c1 PL A2 c2 PL true _ H1c.out H1l.out H2c.out H2l.out HSF.out) ?_; rintro e ws5 ⟨rfl, nd, hw5⟩; replace H2 : Aside0 (Below w2.heap.size w2 ws5) := ⟨by rw [hw5]; exact pw_below_drewN H2.out _⟩; clear hw5))
      all_goals go_wp2_with fail
      all_goals go_meet
      all_goals exact ⟨rfl, H2⟩
     case rest =>
      obtain ⟨rfl, H2'⟩ := hcut
      go_wp2_with fail
      go_ret
      exact ⟨rfl, below_step HBw.out H2'.out⟩
end Go.Proofs.Ytoefjhdcipgacaa.Hy
end
section
namespace Go.Proofs.Ytoefjhdcipgacaa.Hy
open Go.RowKit Go.Proofs.YtoefjhdcipgacaaW.PrintWords Go.Proofs.YtoefjhdcipgacaaW.PrintLast Go.Proofs.YtoefjhdcipgacaaW.PrintMore
open Go.Proofs.Ytoefjhdcipgacaa.PA Go.Proofs.Ytoefjhdcipgacaa.Dec
attribute [local go_sem] max2_int min2_int max_two min_two
set_option linter.unusedSimpArgs false
set_option linter.unusedVariables false
theorem zlen {Z : List Bool} {D : List Int} (h : Z.length = D.length + 1) (hd : D.length ≤ 80) : ((Z.length : Int) == IntKind.i64.wrap ((D.length : Int) + 1)) = true := by
 have e : IntKind.i64.wrap ((D.length : Int) + 1) = (D.length : Int) + 1 := by rw [i64_w]; exact w64 _ ⟨by omega, by omega⟩
 rw [e, h]
 simp
theorem low_let : stanzaref07_Letters.f RK lowL = some true := by rw [letters_f lowL RK (by decide)]; rfl
set_option maxHeartbeats 8000000 in
set_option maxRecDepth 100000 in
theorem words_walk (s : ByteArray) (ws : List Int) (A : Option Addr) (c : Nat) (left right : Int) (fit : Bool) (w : World) (hs : s.size ≤ 140737488351232) (hw : Kd.C (Kd.int .i32) w A ws.length ws) (hwc : ws.length ≤ c) (h32 : ∀ r ∈ ws, Tr.In32 r) (hl : 0 ≤ left ∧ left ≤ 255) (hr : 0 ≤ right ∧ right ≤ 255) :
  Calls Try.prog 12 #[.string s, .slice A ws.length c, .int .u8 left, .int .u8 right, .bool fit] w fun e w' => e = .returned (.bool true) ∧ Below w.heap.size w w' := by
 have HW := Aside0.mk hw
 have HWc := Aside0.mk hwc
 have HW32 := Aside0.mk (fewL_word fit ws h32)
 clear hw hwc h32
 by_cases hsz : 3000 < s.size
 ·have hsz' : 3000 < (s.size : Int) := by omega
  clear hsz
  go_enter Try.func12, Try.ntmps12
  go_wp2_with (go_at_call 24; refine (awake09_calls _).mono ?_; rintro e wa ⟨rfl, hb⟩; have HB := Aside0.mk hb; clear hb)
  go_ret
  exact ⟨rfl, HB.out⟩
 have hsz' : ¬ 3000 < (s.size : Int) := by omega
 clear hsz
 obtain ⟨x, hx⟩ : ∃ x, x = 1 + left % 5 := ⟨_, rfl⟩
 obtain ⟨y, hy⟩ : ∃ y, y = 1 + right % 5 := ⟨_, rfl⟩
 have bx : 1 ≤ x ∧ x ≤ 24 := by omega
 have by_ : 1 ≤ y ∧ y ≤ 24 := by omega
 have HX := Aside0.mk hx
 have HY := Aside0.mk hy
 clear hx hy
 go_enter Try.func12, Try.ntmps12
 go_upto_region 5 with (go_at_call 24; refine (awake09_calls _).mono ?_; rintro e wa ⟨rfl, hb⟩; have HB := Aside0.mk hb; clear hb)
 go_cut [11, 12] (fun v11 v12 wc => wc = wa ∧ v11 = .int .i64 x ∧ v12 = .int .i64 y)
 case first =>
  go_wp2_with fail
  go_meet
  case rel => exact ⟨rfl, by rw [HX.out], by rw [HY.out]⟩
 case rest =>
  obtain ⟨rfl, rfl, rfl⟩ := hcut
  rename World => wv
  clear HX HY
  by_cases hc : codeOf s = 0
  case neg =>
   obtain ⟨code, hcode⟩ : ∃ code, code = codeOf s := ⟨_, rfl⟩
   obtain ⟨at_, hat⟩ : ∃ at_, at_ = atOf s := ⟨_, rfl⟩
   have HCO := Aside0.mk hc
   have hne : code ≠ 0 := by rw [hcode]; exact hc
   have hne2 : (code != 0) = true := by simpa using hne
   have HCD := Aside0.mk hcode.symm
   have HAT := Aside0.mk hat.symm
   clear hcode hat hc
   go_upto_region 6 with fail
   go_cut [13, 14] (fun v13 v14 wc => ∃ g14, v13 = .pointer none ∧ v14 = .pointer (some ⟨g14, 0, none⟩) ∧ Aside0 (wc.heap[g14]? = some (.cells #[.int .i64 code, .int .i64 at_] 46 (0, 0))) ∧ Aside0 (Below w.heap.size w wc))
   case first =>
    go_wp2_with (first
     | (go_at_call 36; refine (stanzalaw09_low.calls lowL _ rfl).mono ?_; rintro e wl ⟨v, rfl, hr, hb⟩; obtain ⟨Al, cl, hv_, hl_, hc_⟩ := Kd.R_reads hr; subst hv_; have HLl := Aside0.mk hl_; have HLc := Aside0.mk hc_; replace HB := Aside0.mk (below_step HB.out hb); clear hb hr hl_ hc_)
     | (go_at_call 26; refine (newB s Al cl lowL x y _ HLc.out HLl.out low_check' bx by_ HCO.out).mono ?_; rintro e wb ⟨rfl, hb⟩; rw [HCD.out, HAT.out]; replace HB := Aside0.mk (below_step HB.out hb); clear hb)
     | ((with_reducible refine gate_dst (N := 14) rfl ?_); refine box_event ?hg (N := 14) ?hd (cs := #[.int .i64 0, .int .i64 0]) (t := 46) ?hr ?_; (case hd => rfl); (case hg => rfl); (case hr => first | (go_simp; done) | (go_simp; rfl)); intro g14 hg w9 hbox hb; have BK14 := Aside0.mk hbox; have GE14 := Aside0.mk (by rw [hg]; exact below_size HB.out : w.heap.size ≤ g14); have GH := Aside0.mk (Nat.le_of_eq hg.symm : wb.heap.size ≤ g14); have HBb := Aside0.mk hb; replace HB := Aside0.mk (below_step HB.out hb); have hcz0 : w9.cell? ⟨g14, 0, none⟩ = some (.int .i64 0) := (blk_cell BK14.out 0).trans rfl; have hcz1 : w9.cell? ⟨g14, 1, none⟩ = some (.int .i64 0) := (blk_cell BK14.out 1).trans rfl; have hcf0 := blk_frozen BK14.out 0; have hcf1 := blk_frozen BK14.out 1; clear hb hbox hg))
    go_meet
    case rel => exact ⟨g14, rfl, rfl, ⟨blk_put (cs := #[.int .i64 code, .int .i64 0]) (blk_put (cs := #[.int .i64 0, .int .i64 0]) (BK14.out) 0 _ rfl) 1 _ rfl⟩, ⟨below_set (below_set (HB.out) GE14.out) GE14.out⟩⟩
   case rest =>
    obtain ⟨g14, rfl, rfl, BK14, HB'⟩ := hcut
    clear HB
    have HB := HB'
    clear HB'
    rename World => wz
    go_upto_region 7 with fail
    go_cut [16] (fun v16 wd => v16 = .int .i64 code ∧ Aside0 (wd.heap[g14]? = some (.cells #[.int .i64 code, .int .i64 at_] 46 (0, 0))) ∧ Aside0 (Below w.heap.size w wd))
    case first =>
     go_wp2_with (first
      | (go_at_call 36; refine (stanzalaw09_low.calls lowL _ rfl).mono ?_; rintro e wl ⟨v, rfl, hr, hb⟩; obtain ⟨Al, cl, hv_, hl_, hc_⟩ := Kd.R_reads hr; subst hv_; have HLl := Aside0.mk hl_; have HLc := Aside0.mk hc_; replace BK14 := Aside0.mk (blk_below BK14.out hb); replace HB := Aside0.mk (below_step HB.out hb); clear hb hr hl_ hc_)
      | (go_at_call 27; refine (rnew_bad3 RK s Al cl lowL x y (patsOf s) (toldOf s) (codeOf s) (atOf s) _ HLc.out HLl.out low_let (by omega) (by omega) (by omega) (by omega) (rparse_eq s RK (Nat.le_refl _)) HCO.out).mono ?_; rintro e wb ⟨rfl, hb⟩; rw [HCD.out, HAT.out]; replace BK14 := Aside0.mk (blk_below BK14.out hb); replace HB := Aside0.mk (below_step HB.out hb); clear hb)
      | ((with_reducible refine gate_dst (N := 15) rfl ?_); refine box_event ?hg (N := 15) ?hd (cs := #[.slice none 0 0, .slice none 0 0, .slice none 0 0, .int .i64 0, .int .i64 0]) (t := 52) ?hr ?_; (case hd => rfl); (case hg => rfl); (case hr => first | (go_simp; done) | (go_simp; rfl)); intro g15 hg w9 hbox hb; have NB := Aside0.mk (by rw [hg]; exact Nat.ne_of_gt (blk_lt BK14.out) : g15 ≠ g14); have GE15 := Aside0.mk (by rw [hg]; exact below_size HB.out : w.heap.size ≤ g15); have GH := Aside0.mk (Nat.le_of_eq hg.symm : wb.heap.size ≤ g15); have HBb := Aside0.mk hb; replace BK14 := Aside0.mk (blk_below BK14.out hb); have BK15 := Aside0.mk hbox; replace HB := Aside0.mk (below_step HB.out hb); have hdz0 : w9.cell? ⟨g15, 0, none⟩ = some (.slice none 0 0) := (blk_cell BK15.out 0).trans rfl; have hdz1 : w9.cell? ⟨g15, 1, none⟩ = some (.slice none 0 0) := (blk_cell BK15.out 1).trans rfl; have hdz2 : w9.cell? ⟨g15, 2, none⟩ = some (.slice none 0 0) := (blk_cell BK15.out 2).trans rfl; have hdz3 : w9.cell? ⟨g15, 3, none⟩ = some (.int .i64 0) := (blk_cell BK15.out 3).trans rfl; have hdz4 : w9.cell? ⟨g15, 4, none⟩ = some (.int .i64 0) := (blk_cell BK15.out 4).trans rfl; have hdf0 := blk_frozen BK15.out 0; have hdf1 := blk_frozen BK15.out 1; have hdf2 := blk_frozen BK15.out 2; have hdf3 := blk_frozen BK15.out 3; have hdf4 := blk_frozen BK15.out 4; clear hb hbox hg))
     go_meet
     case rel => exact ⟨rfl, ⟨blk_far (blk_far (blk_far (blk_far (blk_far (BK14.out) (Ne.symm NB.out) _) (Ne.symm NB.out) _) (Ne.symm NB.out) _) (Ne.symm NB.out) _) (Ne.symm NB.out) _⟩, ⟨below_set (below_set (below_set (below_set (below_set (HB.out) GE15.out) GE15.out) GE15.out) GE15.out) GE15.out⟩⟩
    case rest =>
     obtain ⟨rfl, BK14', HB'⟩ := hcut
     rename World => wy
     have q0 : wy.cell? ⟨g14, 0, none⟩ = some (.int .i64 code) := (blk_cell BK14'.out 0).trans rfl
     go_wp2_with fail
     go_ret
     exact ⟨by simp, HB'.out⟩
  case pos =>
   have HCO := Aside0.mk hc
   have HRP : Aside0 (stanzaref07_Parse.f RK s = some (patsOf s, toldOf s, 0, atOf s)) := ⟨by rw [rparse_eq s RK (Nat.le_refl _), ← hc]⟩
   clear hc
   go_upto_region 6 with fail
   go_cut [13, 14] (fun v13 v14 wc => ∃ b La Lc bt base Wa Wc g14, v13 = .pointer (some ⟨b, 0, none⟩) ∧ v14 = .pointer (some ⟨g14, 0, none⟩) ∧ Aside0 (HyphAt wc b lowL (Tr.make ((patsOf s).map Tr.pq)) (toldOf s) x y La Lc bt base Wa Wc) ∧ Aside0 (wc.heap[g14]? = some (.cells #[.int .i64 0, .int .i64 0] 46 (0, 0))) ∧ Aside0 (Below w.heap.size w wc))
   case first =>
    go_wp2_with (first
     | (go_at_call 36; refine (stanzalaw09_low.calls lowL _ rfl).mono ?_; rintro e wl ⟨v, rfl, hr, hb⟩; obtain ⟨Al, cl, hv_, hl_, hc_⟩ := Kd.R_reads hr; subst hv_; have HLl := Aside0.mk hl_; have HLc := Aside0.mk hc_; replace HB := Aside0.mk (below_step HB.out hb); clear hb hr hl_ hc_)
     | (go_at_call 26; refine (newC s Al cl lowL x y _ HLc.out HLl.out (by decide) low_check' bx by_ HCO.out).mono ?_; rintro e wb ⟨b, La, Lc, bt, base, Wa, Wc, rfl, hH, hb⟩; have HH := Aside0.mk hH; replace HB := Aside0.mk (below_step HB.out hb); clear hb hH)
     | ((with_reducible refine gate_dst (N := 14) rfl ?_); refine box_event ?hg (N := 14) ?hd (cs := #[.int .i64 0, .int .i64 0]) (t := 46) ?hr ?_; (case hd => rfl); (case hg => rfl); (case hr => first | (go_simp; done) | (go_simp; rfl)); intro g14 hg w9 hbox hb; have BK14 := Aside0.mk hbox; have GE14 := Aside0.mk (by rw [hg]; exact below_size HB.out : w.heap.size ≤ g14); have GH := Aside0.mk (Nat.le_of_eq hg.symm : wb.heap.size ≤ g14); have HBb := Aside0.mk hb; replace HB := Aside0.mk (below_step HB.out hb); have hcz0 : w9.cell? ⟨g14, 0, none⟩ = some (.int .i64 0) := (blk_cell BK14.out 0).trans rfl; have hcz1 : w9.cell? ⟨g14, 1, none⟩ = some (.int .i64 0) := (blk_cell BK14.out 1).trans rfl; have hcf0 := blk_frozen BK14.out 0; have hcf1 := blk_frozen BK14.out 1; clear hb hbox hg))
    go_meet
    case rel => exact ⟨b, La, Lc, bt, base, Wa, Wc, g14, rfl, rfl, ⟨HH.out.below (below_set (below_set HBb.out GH.out) GH.out)⟩, ⟨blk_put (cs := #[.int .i64 0, .int .i64 0]) (blk_put (cs := #[.int .i64 0, .int .i64 0]) (BK14.out) 0 _ rfl) 1 _ rfl⟩, ⟨below_set (below_set (HB.out) GE14.out) GE14.out⟩⟩
   case rest =>
    obtain ⟨b, La, Lc, bt, base, Wa, Wc, g14, rfl, rfl, HH, BK14, HB'⟩ := hcut
    clear HB
    have HB := HB'
    clear HB'
    rename World => wz
    go_upto_region 7 with fail
    go_cut [15, 16, 17] (fun v15 v16 v17 wd => ∃ g15 Ap cp Aw cw Al cl, v15 = .pointer (some ⟨g15, 0, none⟩) ∧ v16 = .int .i64 0 ∧ v17 = .int .i64 0 ∧ Aside0 (wd.heap[g15]? = some (.cells #[.slice Ap (patsOf s).length cp, .slice Aw (toldOf s).length cw, .slice Al lowL.length cl, .int .i64 x, .int .i64 y] 52 (0, 0))) ∧ Aside0 (Kd.C k39 wd Ap (patsOf s).length (patsOf s)) ∧ Aside0 ((patsOf s).length ≤ cp) ∧ Aside0 (Kd.C k39 wd Aw (toldOf s).length (toldOf s)) ∧ Aside0 ((toldOf s).length ≤ cw) ∧ Aside0 (Kd.C k63 wd Al lowL.length lowL) ∧ Aside0 (lowL.length ≤ cl) ∧ Aside0 (HyphAt wd b lowL (Tr.make ((patsOf s).map Tr.pq)) (toldOf s) x y La Lc bt base Wa Wc) ∧ Aside0 (wd.heap[g14]? = some (.cells #[.int .i64 0, .int .i64 0] 46 (0, 0))) ∧ Aside0 (Below w.heap.size w wd))
    case first =>
     go_wp2_with (first
      | (go_at_call 36; refine (stanzalaw09_low.calls lowL _ rfl).mono ?_; rintro e wl ⟨v, rfl, hr, hb⟩; obtain ⟨Al, cl, hv_, hl_, hc_⟩ := Kd.R_reads hr; subst hv_; have HLl := Aside0.mk hl_; have HLc := Aside0.mk hc_; replace BK14 := Aside0.mk (blk_below BK14.out hb); replace HH := Aside0.mk (HH.out.below hb); replace HB := Aside0.mk (below_step HB.out hb); clear hb hr hl_ hc_)
      | (go_at_call 27; refine (rnew_ok RK s Al cl lowL x y (patsOf s) (toldOf s) (atOf s) _ HLc.out HLl.out low_let (by omega) (by omega) (by omega) (by omega) HRP.out).mono ?_; rintro e wb ⟨Ap, cp, Aw, cw, rfl, hp1, hp2, hp3, hp4, hb⟩; have HP := Aside0.mk hp1; have HPc := Aside0.mk hp2; have HT := Aside0.mk hp3; have HTc := Aside0.mk hp4; replace HLc := Aside0.mk (Kd.C_below HLc.out hb); replace HH := Aside0.mk (HH.out.below hb); replace BK14 := Aside0.mk (blk_below BK14.out hb); replace HB := Aside0.mk (below_step HB.out hb); clear hb hp1 hp2 hp3 hp4)
      | ((with_reducible refine gate_dst (N := 15) rfl ?_); refine box_event ?hg (N := 15) ?hd (cs := #[.slice none 0 0, .slice none 0 0, .slice none 0 0, .int .i64 0, .int .i64 0]) (t := 52) ?hr ?_; (case hd => rfl); (case hg => rfl); (case hr => first | (go_simp; done) | (go_simp; rfl)); intro g15 hg w9 hbox hb; have NB := Aside0.mk (by rw [hg]; exact Nat.ne_of_gt (blk_lt BK14.out) : g15 ≠ g14); have GE15 := Aside0.mk (by rw [hg]; exact below_size HB.out : w.heap.size ≤ g15); have GH := Aside0.mk (Nat.le_of_eq hg.symm : wb.heap.size ≤ g15); have HBb := Aside0.mk hb; replace BK14 := Aside0.mk (blk_below BK14.out hb); have BK15 := Aside0.mk hbox; replace HB := Aside0.mk (below_step HB.out hb); have hdz0 : w9.cell? ⟨g15, 0, none⟩ = some (.slice none 0 0) := (blk_cell BK15.out 0).trans rfl; have hdz1 : w9.cell? ⟨g15, 1, none⟩ = some (.slice none 0 0) := (blk_cell BK15.out 1).trans rfl; have hdz2 : w9.cell? ⟨g15, 2, none⟩ = some (.slice none 0 0) := (blk_cell BK15.out 2).trans rfl; have hdz3 : w9.cell? ⟨g15, 3, none⟩ = some (.int .i64 0) := (blk_cell BK15.out 3).trans rfl; have hdz4 : w9.cell? ⟨g15, 4, none⟩ = some (.int .i64 0) := (blk_cell BK15.out 4).trans rfl; have hdf0 := blk_frozen BK15.out 0; have hdf1 := blk_frozen BK15.out 1; have hdf2 := blk_frozen BK15.out 2; have hdf3 := blk_frozen BK15.out 3; have hdf4 := blk_frozen BK15.out 4; clear hb hbox hg))
     go_meet
     case rel =>
      exact ⟨g15, Ap, cp, Aw, cw, Al, cl, rfl, rfl, rfl, ⟨blk_put (cs := #[.slice Ap (patsOf s).length cp, .slice Aw (toldOf s).length cw, .slice Al lowL.length cl, .int .i64 x, .int .i64 0]) (blk_put (cs := #[.slice Ap (patsOf s).length cp, .slice Aw (toldOf s).length cw, .slice Al lowL.length cl, .int .i64 0, .int .i64 0]) (blk_put (cs := #[.slice Ap (patsOf s).length cp, .slice Aw (toldOf s).length cw, .slice none 0 0, .int .i64 0, .int .i64 0]) (blk_put (cs := #[.slice Ap (patsOf s).length cp, .slice none 0 0, .slice none 0 0, .int .i64 0, .int .i64 0]) (blk_put (cs := #[.slice none 0 0, .slice none 0 0, .slice none 0 0, .int .i64 0, .int .i64 0]) (BK15.out) 0 _ rfl) 1 _ rfl) 2 _ rfl) 3 _ rfl) 4 _ rfl⟩, ⟨Kd.C_below HP.out (below_set (below_set (below_set (below_set (below_set HBb.out GH.out) GH.out) GH.out) GH.out) GH.out)⟩, HPc, ⟨Kd.C_below HT.out (below_set (below_set (below_set (below_set (below_set HBb.out GH.out) GH.out) GH.out) GH.out) GH.out)⟩, HTc, ⟨Kd.C_below HLc.out (below_set (below_set (below_set (below_set (below_set HBb.out GH.out) GH.out) GH.out) GH.out) GH.out)⟩, HLl, ⟨HH.out.below (below_set (below_set (below_set (below_set (below_set HBb.out GH.out) GH.out) GH.out) GH.out) GH.out)⟩, ⟨blk_far (blk_far (blk_far (blk_far (blk_far (BK14.out) (Ne.symm NB.out) _) (Ne.symm NB.out) _) (Ne.symm NB.out) _) (Ne.symm NB.out) _) (Ne.symm NB.out) _⟩, ⟨below_set (below_set (below_set (below_set (below_set (HB.out) GE15.out) GE15.out) GE15.out) GE15.out) GE15.out⟩⟩
    case rest =>
     obtain ⟨g15, Ap, cp, Aw, cw, Al, cl, rfl, rfl, rfl, BK15, HP, HPc, HT, HTc, HLc, HLl, HH', BK14', HB'⟩ := hcut
     clear HB HH BK14
     have HB := HB'
     have HH := HH'
     have BK14 := BK14'
     clear HB' HH' BK14'
     rename World => w2
     have HBw := HB
     have H2 := Aside0.mk (Below.refl w2.heap.size w2)
     obtain ⟨D, hD⟩ : ∃ D, D = fewL fit ws := ⟨_, rfl⟩
     have HDE := Aside0.mk hD.symm
     have HWD : Aside0 (Tr.Word D) := ⟨by rw [hD]; exact HW32.out⟩
     have hD80 : D.length ≤ 80 := by rw [hD]; exact fewL_len fit ws
     obtain ⟨Z, hZ⟩ : ∃ Z, Z = List.replicate (D.length + 1) false := ⟨_, rfl⟩
     have HZE := Aside0.mk hZ.symm
     have HZL : Aside0 (Z.length = D.length + 1) := ⟨by rw [hZ]; exact List.length_replicate⟩
     have HZP : Aside0 (0 < Z.length) := ⟨by rw [HZL.out]; omega⟩
     have HZ0 : Aside0 (∀ i : Int, rdOf false Z i = false) := ⟨fun i => by rw [hZ, rdOf, List.getD_eq_getElem?_getD, List.getElem?_replicate]; split <;> rfl⟩
     clear hD hZ
     go_upto_block 0 with (first
      | (go_at_call 32; refine (stanzalaw09_few.calls 100 A c ws fit (fewL fit ws) _ (Kd.C_below HW.out HB.out) HWc.out (few_eq fit ws)).mono ?_; rintro e wf ⟨v, rfl, hr, hb⟩; rw [HDE.out] at hr; obtain ⟨AD, cD, hv_, hl_, hc_⟩ := Kd.R_reads hr; subst hv_; have HDl := Aside0.mk hl_; have HDc := Aside0.mk hc_; replace HB := Aside0.mk (below_step HB.out hb); replace H2 := Aside0.mk (below_step H2.out hb); clear hb hr hl_ hc_)
      | (go_at_call 33; refine (word_nil AD cD D _ HWD.out).mono ?_; rintro e wn ⟨v, rfl, hr, hb⟩; rw [HZE.out] at hr; obtain ⟨gz, cz, rfl, _, _, _, _⟩ := Kd.R_form hr HZP.out; have HZ := Aside0.mk hr; replace HDc := Aside0.mk (Kd.C_below HDc.out hb); replace HB := Aside0.mk (below_step HB.out hb); replace H2 := Aside0.mk (below_step H2.out hb); clear hb hr))
     go_wp2_with fail
     obtain ⟨g0, hg0⟩ : ∃ g0 : Nat, g0 = Z.length + 1 := ⟨_, rfl⟩
     have HG0 := Aside0.mk hg0
     clear hg0
     go_loopg [64] g0 (fun g v64 w' => ∃ k : Nat, v64 = .int .i64 (k : Int) ∧ w' = wn ∧ Aside0 (k ≤ Z.length) ∧ Aside0 (g + k = Z.length + 1))
     case atStart => exact ⟨0, rfl, rfl, ⟨Nat.zero_le _⟩, ⟨by have := HG0.out; omega⟩⟩
     case round =>
      obtain ⟨k, rfl, rfl, HKL, HGk⟩ := hrel
      by_cases hk : (k : Int) < (Z.length : Int)
      case pos =>
       obtain ⟨qz, qzf⟩ := Kd.R_celln false HZ.out (k : Int) (by omega) hk
       rw [HZ0.out, Int.toNat_natCast] at qz
       have pk : (0 : Int) ≤ (k : Int) := by omega
       have hkM : (k : Int) ≤ 1000 := by have := HZL.out; omega
       clear qzf
       go_wp2_with fail
       go_roundg (gk - 1)
       case measure => have := HGk.out; omega
       case rel => exact ⟨k + 1, by go_num, rfl, ⟨by omega⟩, ⟨by have := HGk.out; omega⟩⟩
      case neg =>
       rename World => wn
       go_upto_region 18 with fail
       clear hk HKL HGk HG0
       have q14 : wn.cell? ⟨g14, 0, none⟩ = some (.int .i64 0) := (blk_cell (blk_below BK14.out H2.out) 0).trans rfl
       have q15_0 : wn.cell? ⟨g15, 0, none⟩ = some (.slice Ap (patsOf s).length cp) := (blk_cell (blk_below BK15.out H2.out) 0).trans rfl
       have q15_1 : wn.cell? ⟨g15, 1, none⟩ = some (.slice Aw (toldOf s).length cw) := (blk_cell (blk_below BK15.out H2.out) 1).trans rfl
       have q15_2 : wn.cell? ⟨g15, 2, none⟩ = some (.slice Al lowL.length cl) := (blk_cell (blk_below BK15.out H2.out) 2).trans rfl
       have q15_3 : wn.cell? ⟨g15, 3, none⟩ = some (.int .i64 x) := (blk_cell (blk_below BK15.out H2.out) 3).trans rfl
       have q15_4 : wn.cell? ⟨g15, 4, none⟩ = some (.int .i64 y) := (blk_cell (blk_below BK15.out H2.out) 4).trans rfl
       obtain ⟨PL, hPL⟩ : ∃ PL, PL = Hy.pts (wordVals (patsOf s) (toldOf s) D) D.length x y := ⟨_, rfl⟩
       have HPE := Aside0.mk hPL.symm
       have HRW : Aside0 (stanzaref07_Hyphens_Word.f 3000 (patsOf s) (toldOf s) lowL x y D = some PL) := ⟨by rw [hPL]; exact rword_eq s lowL x y D HWD.out 3000 (Nat.le_refl _)⟩
       have HSF : Aside0 (stanzaref07_SameBools.f 100002 PL PL = some true) := ⟨same_f _ (by rw [hPL, pts_length]; omega)⟩
       have hzl2 : (Z.length : Int) ≤ 1000 := by have := HZL.out; omega
       replace HDc := Aside0.mk (Kd.C_drew HDc.out)
       replace H2 := Aside0.mk (below_drew H2.out)
       clear hPL HZ HB
       go_cut [10] (fun v10 wc => v10 = .bool true ∧ Aside0 (Below w2.heap.size w2 wc))
       case first =>
        go_region_with (first
        | (go_at_call_of 33 (Value.pointer (some ⟨b, 0, none⟩)); refine Calls.mono (word_calls b lowL (patsOf s) (toldOf s) x y La Lc bt base Wa Wc AD cD D _ (HH.out.below H2.out) HDc.out HDl.out (Dec.parseOf_fit s) HWD.out bx by_ (Dec.parseOf_told s)) ?_; rintro e wk ⟨v, rfl, hr, hb⟩; rw [HPE.out] at hr; obtain ⟨A1, c1, hv_, hl_, hc_⟩ := Kd.R_reads hr; subst hv_; have H1l := Aside0.mk hl_; have H1c := Aside0.mk hc_; replace HDc := Aside0.mk (Kd.C_below HDc.out hb); replace H2 := Aside0.mk (below_step H2.out hb); have HK15 := Aside0.mk (blk_below BK15.out H2.out); have hkz0 : wk.cell? ⟨g15, 0, none⟩ = some (.slice Ap (patsOf s).length cp) := (blk_cell HK15.out 0).trans rfl; have hkz1 : wk.cell? ⟨g15, 1, none⟩ = some (.slice Aw (toldOf s).length cw) := (blk_cell HK15.out 1).trans rfl; have hkz2 : wk.cell? ⟨g15, 2, none⟩ = some (.slice Al lowL.length cl) := (blk_cell HK15.out 2).trans rfl; have hkz3 : wk.cell? ⟨g15, 3, none⟩ = some (.int .i64 x) := (blk_cell HK15.out 3).trans rfl; have hkz4 : wk.cell? ⟨g15, 4, none⟩ = some (.int .i64 y) := (blk_cell HK15.out 4).trans rfl; have hkf0 := blk_frozen HK15.out 0; have hkf1 := blk_frozen HK15.out 1; have hkf2 := blk_frozen HK15.out 2; have hkf3 := blk_frozen HK15.out 3; have hkf4 := blk_frozen HK15.out 4; clear hb hr hl_ hc_)
        | (go_at_call 37; refine Calls.mono (stanzaref07_Hyphens_Word.calls 3000 Ap cp (patsOf s) (fun k_ => k_ < w2.heap.size) Aw cw (toldOf s) Al cl lowL x y AD cD D PL _ (Kd.C_below HP.out H2.out) HPc.out (Kd.V_mk HTc.out (Kd.F_below (Kd.C_F k39_heap HT.out) H2.out)) (Kd.C_below HLc.out H2.out) HLl.out HDc.out HDl.out HRW.out) ?_; rintro e wq ⟨v, rfl, hr, hb⟩; obtain ⟨A2, c2, hv_, hl_, hc_⟩ := Kd.R_reads hr; subst hv_; have H2l := Aside0.mk hl_; have H2c := Aside0.mk hc_; replace H1c := Aside0.mk (Kd.C_below H1c.out hb); replace HDc := Aside0.mk (Kd.C_below HDc.out hb); replace H2 := Aside0.mk (below_step H2.out hb); clear hb hr hl_ hc_)
        | (go_at_call 29; refine Calls.mono (stanzaref07_SameBools.calls 100002 A1 c1 PL A2 c2 PL true _ H1c.out H1l.out H2c.out H2l.out HSF.out) ?_; rintro e ws5 ⟨rfl, nd, hw5⟩; replace H2 : Aside0 (Below w2.heap.size w2 ws5) := ⟨by rw [hw5]; exact pw_below_drewN H2.out _⟩; replace HDc : Aside0 (Kd.C (Kd.int .i32) ws5 AD D.length D) := ⟨by rw [hw5]; exact Kd.C_drewN HDc.out _⟩; clear hw5)
        | (go_at_call_of 33 (Value.pointer none); refine Calls.mono (word_nil AD cD D _ HWD.out) ?_; rintro e wn2 ⟨v, rfl, hr, hb⟩; rw [HZE.out] at hr; obtain ⟨A3, c3, hv_, hl_, hc_⟩ := Kd.R_reads hr; subst hv_; replace H2 := Aside0.mk (below_step H2.out hb); clear hb hr hl_ hc_))
        all_goals go_wp2_with fail
        all_goals go_meet
        all_goals exact ⟨by rw [zlen HZL.out hD80], H2⟩
       case rest =>
        obtain ⟨rfl, H2'⟩ := hcut
        go_wp2_with fail
        go_ret
        exact ⟨rfl, below_step HBw.out H2'.out⟩
end Go.Proofs.Ytoefjhdcipgacaa.Hy
end
