/-
  Part 21 of what the law HyphApart rests on: contracts of the functions that it calls, and plain laws of what they compute.
-/
import Derived.Deep.RegionWith
import Derived.BigRegion
import Derived.Test.YtoefjhdcipgacaaHA6
import Derived.Test.YtoefjhdcipgacaaHA8
import Derived.Test.YtoefjhdcipgacaaHA16
import Derived.Test.YtoefjhdcipgacaaHA17
import Derived.Test.YtoefjhdcipgacaaHA18
import Derived.Test.YtoefjhdcipgacaaHA19
import Derived.Test.YtoefjhdcipgacaaHA20
section
namespace Go.Proofs.Ytoefjhdcipgacaa.Hy
open Go.RowKit Go.Proofs.YtoefjhdcipgacaaW.PrintWords Go.Proofs.YtoefjhdcipgacaaW.PrintLast Go.Proofs.YtoefjhdcipgacaaW.PrintMore
open Go.Proofs.Ytoefjhdcipgacaa.PA
attribute [local go_sem] max2_int min2_int max_two min_two
set_option maxHeartbeats 8000000 in
set_option maxRecDepth 100000 in
theorem new_bad3 (k : Nat) (s : ByteArray) (A : Option Addr) (c : Nat) (ls : List S63) (left right : Int) (P W : List S39) (code at_ : Int) (w : World) (hl : Kd.C k63 w A ls.length ls) (hlc : ls.length ≤ c) (hck : hyph_Check.f k ls = some true)
    (h1 : 1 ≤ left) (h2 : 1 ≤ right) (h3 : left ≤ 24) (h4 : right ≤ 24) (hpar : pats_Parse.f k s = some (P, W, code, at_)) (hne : code ≠ 0) :
    Calls Try.prog 26 #[.string s, .slice A ls.length c, .int .i64 left, .int .i64 right] w fun e w' => e = .returned (.tuple #[.pointer none, .agg #[.int .i64 code, .int .i64 at_]]) ∧ Below w.heap.size w w' := by
  have HL := Aside0.mk hl
  have HLc := Aside0.mk hlc
  have HK := Aside0.mk hck
  have HP := Aside0.mk hpar
  clear hl hlc hck hpar
  go_enter Try.func26, Try.ntmps26
  go_upto_region 5 with (first
    | ((with_reducible refine gate_dst (N := 9) rfl ?_); refine box_event ?hg (N := 9) ?hd (cs := #[.int .i64 0, .int .i64 0]) (t := 46) ?hr ?_; (case hd => rfl); (case hg => rfl); (case hr => first | (go_simp; done) | (go_simp; rfl)); intro g9 hg w1 hbox hb; have HB := Aside0.mk hb; have BK9 := Aside0.mk hbox; have GE9 := Aside0.mk (Nat.le_of_eq hg.symm : w.heap.size ≤ g9); clear hb hbox hg)
    | (go_at_call 34; refine (hyph_Check.calls k A c ls true _ (Kd.C_below HL.out HB.out) HLc.out HK.out).mono ?_; rintro e w2 ⟨rfl, hb⟩; replace BK9 := Aside0.mk (blk_below BK9.out hb); replace HB := Aside0.mk (below_step HB.out hb); clear hb))
  go_cut [10, 11] (fun v10 v11 wc => ∃ g11, v11 = .pointer (some ⟨g11, 0, none⟩) ∧ Aside0 (wc.heap[g11]? = some (.cells #[.int .i64 code, .int .i64 at_] 46 (0, 0))) ∧ Aside0 (wc.heap[g9]? = some (.cells #[.int .i64 0, .int .i64 0] 46 (0, 0))) ∧ Aside0 (Below w.heap.size w wc))
  case first =>
    go_wp2_with (first
    | (go_at_call 41; refine (pats_Parse.calls k s P W code at_ _ HP.out).mono ?_; rintro e w3 ⟨v0, v1, rfl, hs0, hs1, hb⟩; obtain ⟨Ap, cp, rfl⟩ := Kd.S_slice hs0; obtain ⟨Aw, cw, rfl⟩ := Kd.S_slice hs1; have HS0 := Aside0.mk (Kd.S_lower (Kd.S_mono (ok' := fun _ => True) hs0 (fun _ _ => trivial)) (below_size HB.out)); have HS1 := Aside0.mk (Kd.S_lower (Kd.S_mono (ok' := fun _ => True) hs1 (fun _ _ => trivial)) (below_size HB.out)); replace BK9 := Aside0.mk (blk_below BK9.out hb); replace HB := Aside0.mk (below_step HB.out hb); clear hb hs0 hs1)
    | ((with_reducible refine gate_dst (N := 10) rfl ?_); refine box_event ?hg (N := 10) ?hd (cs := #[.slice none 0 0, .slice none 0 0]) (t := 50) ?hr ?_; (case hd => rfl); (case hg => rfl); (case hr => first | (go_simp; done) | (go_simp; rfl)); intro g10 hg w4 hbox hb; replace HS0 := Aside0.mk (Kd.S_below HS0.out hb); replace HS1 := Aside0.mk (Kd.S_below HS1.out hb); replace BK9 := Aside0.mk (blk_below BK9.out hb); have BK10 := Aside0.mk hbox; have GE10 := Aside0.mk (by rw [hg]; exact below_size HB.out : w.heap.size ≤ g10); replace HB := Aside0.mk (below_step HB.out hb); clear hb hbox hg)
    | ((with_reducible refine gate_dst (N := 11) rfl ?_); refine box_event ?hg (N := 11) ?hd (cs := #[.int .i64 0, .int .i64 0]) (t := 46) ?hr ?_; (case hd => rfl); (case hg => rfl); (case hr => first | (go_simp; done) | (go_simp; rfl)); intro g11 hg w5 hbox hb; have NB := Aside0.mk (by rw [hg]; exact Nat.ne_of_lt (blk_lt BK9.out) : g9 ≠ g11); replace HS0 := Aside0.mk (Kd.S_below HS0.out hb); replace HS1 := Aside0.mk (Kd.S_below HS1.out hb); replace BK9 := Aside0.mk (blk_below BK9.out hb); replace BK10 := Aside0.mk (blk_below BK10.out hb); have BK11 := Aside0.mk hbox; have GE11 := Aside0.mk (by rw [hg]; exact below_size HB.out : w.heap.size ≤ g11); replace HB := Aside0.mk (below_step HB.out hb); have hcz0 : w5.cell? ⟨g10, 0, none⟩ = some (.slice none 0 0) := (blk_cell BK10.out 0).trans rfl; have hcz1 : w5.cell? ⟨g10, 1, none⟩ = some (.slice none 0 0) := (blk_cell BK10.out 1).trans rfl; have hfz0 := blk_frozen BK10.out 0; have hfz1 := blk_frozen BK10.out 1; have hdz0 : w5.cell? ⟨g11, 0, none⟩ = some (.int .i64 0) := (blk_cell BK11.out 0).trans rfl; have hdz1 : w5.cell? ⟨g11, 1, none⟩ = some (.int .i64 0) := (blk_cell BK11.out 1).trans rfl; have hez0 := blk_frozen BK11.out 0; have hez1 := blk_frozen BK11.out 1; have hnb := blk_ne BK10.out BK11.out (by decide); have hnc := Ne.symm hnb; clear hb hbox hg))
    go_meet
    case rel =>
      refine ⟨g11, rfl, ⟨?_⟩, ⟨?_⟩, ⟨?_⟩⟩
      · refine blk_put (cs := #[.int .i64 code, .int .i64 0]) (blk_put (cs := #[.int .i64 0, .int .i64 0]) (blk_far (blk_far BK11.out hnc _) hnc _) 0 _ rfl) 1 _ rfl
      · refine blk_far (blk_far (blk_far (blk_far BK9.out ?_ _) ?_ _) NB.out _) NB.out _ <;> exact Ne.symm (blk_ne BK10.out BK9.out (by decide))
      · exact below_set (below_set (below_set (below_set HB.out GE10.out) GE10.out) GE11.out) GE11.out
  case rest =>
    obtain ⟨g11, rfl, BK11, BK9', HB'⟩ := hcut
    clear HB BK9
    have HB := HB'
    have BK9 := BK9'
    clear HB' BK9'
    have hdz0 : wc.cell? ⟨g11, 0, none⟩ = some (.int .i64 code) := (blk_cell BK11.out 0).trans rfl
    have hdz1 : wc.cell? ⟨g11, 1, none⟩ = some (.int .i64 at_) := (blk_cell BK11.out 1).trans rfl
    have hcz0 : wc.cell? ⟨g9, 0, none⟩ = some (.int .i64 0) := (blk_cell BK9.out 0).trans rfl
    have hcz1 : wc.cell? ⟨g9, 1, none⟩ = some (.int .i64 0) := (blk_cell BK9.out 1).trans rfl
    have hfz0 := blk_frozen BK9.out 0
    have hfz1 := blk_frozen BK9.out 1
    go_upto_region 7 with fail
    go_region
    all_goals go_wp2_with fail
    refine bodyPost_ret (results_tc rfl _ _ g9 46 #[.int .i64 code, .int .i64 at_] (0, 0) _ rfl (blk_drew (blk_put (cs := #[.int .i64 code, .int .i64 0]) (blk_put (cs := #[.int .i64 0, .int .i64 0]) BK9.out 0 _ rfl) 1 _ rfl)) Try.underlying46 rfl (by kernel_rfl)) rfl ?_
    exact ⟨rfl, below_drew (below_set (below_set HB.out GE9.out) GE9.out)⟩
end Go.Proofs.Ytoefjhdcipgacaa.Hy
end
section
namespace Go.Proofs.Ytoefjhdcipgacaa.Hy
open Go.RowKit Go.Proofs.YtoefjhdcipgacaaW.PrintWords Go.Proofs.YtoefjhdcipgacaaW.PrintLast Go.Proofs.YtoefjhdcipgacaaW.PrintMore
open Go.Proofs.Ytoefjhdcipgacaa.PA
attribute [local go_sem] max2_int min2_int max_two min_two
theorem _root_.Go.Proofs.Ytoefjhdcipgacaa.Tr.TrieAt.set {w : World} {base bt g : Nat} {T : Tr.TM} (h : Tr.TrieAt w base bt T) (hg : g < base) (j : Nat) (u : Value) : Tr.TrieAt (w.setCell ⟨g, j, none⟩ u) base bt T := by
  obtain ⟨bn, cap, K, xs, ms, vs, hK, h⟩ := h
  exact ⟨bn, cap, K, xs, ms, vs, hK, h.move (fun k hk _ => Below.heap_setCell w ⟨g, j, none⟩ u k (by show k ≠ g; omega))⟩
set_option maxHeartbeats 8000000 in
set_option maxRecDepth 100000 in
theorem new_ok (k : Nat) (s : ByteArray) (A : Option Addr) (c : Nat) (ls : List S63) (left right : Int) (P W : List S39) (w : World) (hl : Kd.C k63 w A ls.length ls) (hlc : ls.length ≤ c) (h8 : ls.length ≤ 1000000) (hck : hyph_Check.f k ls = some true)
    (h1 : 1 ≤ left) (h2 : 1 ≤ right) (h3 : left ≤ 24) (h4 : right ≤ 24) (hpar : pats_Parse.f k s = some (P, W, 0, 0)) (hfit : Tr.Fit P) :
    Calls Try.prog 26 #[.string s, .slice A ls.length c, .int .i64 left, .int .i64 right] w fun e w' => ∃ b La Lc bt base Wa Wc, e = .returned (.tuple #[.pointer (some ⟨b, 0, none⟩), .agg #[.int .i64 0, .int .i64 0]]) ∧ HyphAt w' b ls (Tr.make (P.map Tr.pq)) W left right La Lc bt base Wa Wc ∧ Below w.heap.size w w' := by
  have HL := Aside0.mk hl
  have HLc := Aside0.mk hlc
  have HL8 := Aside0.mk h8
  have HK := Aside0.mk hck
  have HP := Aside0.mk hpar
  have HF := Aside0.mk hfit
  clear hl hlc h8 hck hpar hfit
  go_enter Try.func26, Try.ntmps26
  go_upto_region 5 with (first
    | ((with_reducible refine gate_dst (N := 9) rfl ?_); refine box_event ?hg (N := 9) ?hd (cs := #[.int .i64 0, .int .i64 0]) (t := 46) ?hr ?_; (case hd => rfl); (case hg => rfl); (case hr => first | (go_simp; done) | (go_simp; rfl)); intro g9 hg w1 hbox hb; have HB := Aside0.mk hb; have BK9 := Aside0.mk hbox; have GE9 := Aside0.mk (Nat.le_of_eq hg.symm : w.heap.size ≤ g9); clear hb hbox hg)
    | (go_at_call 34; refine (hyph_Check.calls k A c ls true _ (Kd.C_below HL.out HB.out) HLc.out HK.out).mono ?_; rintro e w2 ⟨rfl, hb⟩; replace BK9 := Aside0.mk (blk_below BK9.out hb); replace HB := Aside0.mk (below_step HB.out hb); clear hb))
  go_cut [10, 11] (fun v10 v11 wc => ∃ g10 g11 Ap cp Aw cw, v10 = .pointer (some ⟨g10, 0, none⟩) ∧ v11 = .pointer (some ⟨g11, 0, none⟩) ∧ Aside0 (wc.heap[g10]? = some (.cells #[.slice Ap P.length cp, .slice Aw W.length cw] 50 (0, 0))) ∧ Aside0 (wc.heap[g11]? = some (.cells #[.int .i64 0, .int .i64 0] 46 (0, 0))) ∧ Aside0 (wc.heap[g9]? = some (.cells #[.int .i64 0, .int .i64 0] 46 (0, 0))) ∧ Aside0 (Kd.S k39 39 wc w.heap.size (fun _ => True) (.slice Ap P.length cp) P) ∧ Aside0 (Kd.S k39 39 wc w.heap.size (fun _ => True) (.slice Aw W.length cw) W) ∧ Aside0 (Below w.heap.size w wc))
  case first =>
    go_wp2_with (first
    | (go_at_call 41; refine (pats_Parse.calls k s P W 0 0 _ HP.out).mono ?_; rintro e w3 ⟨v0, v1, rfl, hs0, hs1, hb⟩; obtain ⟨Ap, cp, rfl⟩ := Kd.S_slice hs0; obtain ⟨Aw, cw, rfl⟩ := Kd.S_slice hs1; have HS0 := Aside0.mk (Kd.S_lower (Kd.S_mono (ok' := fun _ => True) hs0 (fun _ _ => trivial)) (below_size HB.out)); have HS1 := Aside0.mk (Kd.S_lower (Kd.S_mono (ok' := fun _ => True) hs1 (fun _ _ => trivial)) (below_size HB.out)); replace BK9 := Aside0.mk (blk_below BK9.out hb); replace HB := Aside0.mk (below_step HB.out hb); clear hb hs0 hs1)
    | ((with_reducible refine gate_dst (N := 10) rfl ?_); refine box_event ?hg (N := 10) ?hd (cs := #[.slice none 0 0, .slice none 0 0]) (t := 50) ?hr ?_; (case hd => rfl); (case hg => rfl); (case hr => first | (go_simp; done) | (go_simp; rfl)); intro g10 hg w4 hbox hb; replace HS0 := Aside0.mk (Kd.S_below HS0.out hb); replace HS1 := Aside0.mk (Kd.S_below HS1.out hb); replace BK9 := Aside0.mk (blk_below BK9.out hb); have BK10 := Aside0.mk hbox; have GE10 := Aside0.mk (by rw [hg]; exact below_size HB.out : w.heap.size ≤ g10); replace HB := Aside0.mk (below_step HB.out hb); clear hb hbox hg)
    | ((with_reducible refine gate_dst (N := 11) rfl ?_); refine box_event ?hg (N := 11) ?hd (cs := #[.int .i64 0, .int .i64 0]) (t := 46) ?hr ?_; (case hd => rfl); (case hg => rfl); (case hr => first | (go_simp; done) | (go_simp; rfl)); intro g11 hg w5 hbox hb; have NB := Aside0.mk (by rw [hg]; exact Nat.ne_of_lt (blk_lt BK9.out) : g9 ≠ g11); replace HS0 := Aside0.mk (Kd.S_below HS0.out hb); replace HS1 := Aside0.mk (Kd.S_below HS1.out hb); replace BK9 := Aside0.mk (blk_below BK9.out hb); replace BK10 := Aside0.mk (blk_below BK10.out hb); have BK11 := Aside0.mk hbox; have GE11 := Aside0.mk (by rw [hg]; exact below_size HB.out : w.heap.size ≤ g11); replace HB := Aside0.mk (below_step HB.out hb); have hcz0 : w5.cell? ⟨g10, 0, none⟩ = some (.slice none 0 0) := (blk_cell BK10.out 0).trans rfl; have hcz1 : w5.cell? ⟨g10, 1, none⟩ = some (.slice none 0 0) := (blk_cell BK10.out 1).trans rfl; have hfz0 := blk_frozen BK10.out 0; have hfz1 := blk_frozen BK10.out 1; have hdz0 : w5.cell? ⟨g11, 0, none⟩ = some (.int .i64 0) := (blk_cell BK11.out 0).trans rfl; have hdz1 : w5.cell? ⟨g11, 1, none⟩ = some (.int .i64 0) := (blk_cell BK11.out 1).trans rfl; have hez0 := blk_frozen BK11.out 0; have hez1 := blk_frozen BK11.out 1; have hnb := blk_ne BK10.out BK11.out (by decide); have hnc := Ne.symm hnb; clear hb hbox hg))
    go_meet
    case rel =>
      refine ⟨g10, g11, Ap, cp, Aw, cw, rfl, rfl, ⟨?_⟩, ⟨?_⟩, ⟨?_⟩, ⟨?_⟩, ⟨?_⟩, ⟨?_⟩⟩
      · refine blk_far (blk_far (blk_put (cs := #[.slice Ap P.length cp, .slice none 0 0]) (blk_put (cs := #[.slice none 0 0, .slice none 0 0]) BK10.out 0 _ rfl) 1 _ rfl) hnb _) hnb _
      · refine blk_put (cs := #[.int .i64 0, .int .i64 0]) (blk_put (cs := #[.int .i64 0, .int .i64 0]) (blk_far (blk_far BK11.out hnc _) hnc _) 0 _ rfl) 1 _ rfl
      · refine blk_far (blk_far (blk_far (blk_far BK9.out ?_ _) ?_ _) NB.out _) NB.out _ <;> exact Ne.symm (blk_ne BK10.out BK9.out (by decide))
      · exact Kd.S_far (p := ⟨g11, 1, none⟩) (Kd.S_far (p := ⟨g11, 0, none⟩) (Kd.S_far (p := ⟨g10, 1, none⟩) (Kd.S_far (p := ⟨g10, 0, none⟩) (Kd.S_types (Kd.S_types HS0.out BK10.out (by decide)) BK11.out (by decide)) (fun _ hk => hk.1.2) _) (fun _ hk => hk.1.2) _) (fun _ hk => hk.2) _) (fun _ hk => hk.2) _ |> fun h => Kd.S_mono h (fun _ _ => trivial)
      · exact Kd.S_far (p := ⟨g11, 1, none⟩) (Kd.S_far (p := ⟨g11, 0, none⟩) (Kd.S_far (p := ⟨g10, 1, none⟩) (Kd.S_far (p := ⟨g10, 0, none⟩) (Kd.S_types (Kd.S_types HS1.out BK10.out (by decide)) BK11.out (by decide)) (fun _ hk => hk.1.2) _) (fun _ hk => hk.1.2) _) (fun _ hk => hk.2) _) (fun _ hk => hk.2) _ |> fun h => Kd.S_mono h (fun _ _ => trivial)
      · exact below_set (below_set (below_set (below_set HB.out GE10.out) GE10.out) GE11.out) GE11.out
  case rest =>
    obtain ⟨g10, g11, Ap, cp, Aw, cw, rfl, rfl, BK10, BK11, BK9', HS0, HS1, HB'⟩ := hcut
    clear HB BK9
    have HB := HB'
    have BK9 := BK9'
    clear HB' BK9'
    have hdz0 : wc.cell? ⟨g11, 0, none⟩ = some (.int .i64 0) := (blk_cell BK11.out 0).trans rfl
    have hdz1 : wc.cell? ⟨g11, 1, none⟩ = some (.int .i64 0) := (blk_cell BK11.out 1).trans rfl
    go_upto_region 8 with fail
    clear hdz0 hdz1
    have hD := below_drew (Below.refl wc.heap.size wc)
    have q0 : wc.cell? ⟨g10, 0, none⟩ = some (.slice Ap P.length cp) := (blk_cell BK10.out 0).trans rfl
    have q1 : wc.cell? ⟨g10, 1, none⟩ = some (.slice Aw W.length cw) := (blk_cell BK10.out 1).trans rfl
    replace BK9 := Aside0.mk (blk_below BK9.out hD)
    replace BK10 := Aside0.mk (blk_below BK10.out hD)
    replace HS0 := Aside0.mk (Kd.S_drew HS0.out)
    replace HS1 := Aside0.mk (Kd.S_drew HS1.out)
    replace HB := Aside0.mk (below_drew HB.out)
    clear hD BK11
    go_region_with (first
      | (go_at_call 42; refine Calls.mono (clone_calls ls A c _ (Kd.C_below HL.out HB.out) HL8.out) ?_; rintro e w6 ⟨v6, rfl, hr, hb⟩; obtain ⟨La, Lc, rfl⟩ := Kd.R_slice hr; have HR := Aside0.mk (Kd.R_lower hr (below_size HB.out)); replace BK9 := Aside0.mk (blk_below BK9.out hb); replace BK10 := Aside0.mk (blk_below BK10.out hb); replace HS0 := Aside0.mk (Kd.S_below HS0.out hb); replace HS1 := Aside0.mk (Kd.S_below HS1.out hb); replace HB := Aside0.mk (below_step HB.out hb); have q2 : w6.cell? ⟨g10, 0, none⟩ = some (.slice Ap P.length cp) := (blk_cell BK10.out 0).trans rfl; have q3 : w6.cell? ⟨g10, 1, none⟩ = some (.slice Aw W.length cw) := (blk_cell BK10.out 1).trans rfl; clear hb hr)
      | (go_at_call 19; refine Calls.mono (Tr.make_fit P Ap cp _ (Kd.S_reads' HS0.out).2.2 (Kd.S_reads' HS0.out).2.1 HF.out) ?_; rintro e w7 ⟨bt, rfl, hT, hb⟩; have HT := Aside0.mk hT; have NB9 := Aside0.mk (blk_lt BK9.out); replace BK9 := Aside0.mk (blk_below BK9.out hb); replace BK10 := Aside0.mk (blk_below BK10.out hb); replace HS0 := Aside0.mk (Kd.S_below HS0.out hb); replace HS1 := Aside0.mk (Kd.S_below HS1.out hb); replace HR := Aside0.mk (Kd.R_below HR.out hb); replace HB := Aside0.mk (below_step HB.out hb); have q4 : w7.cell? ⟨g10, 0, none⟩ = some (.slice Ap P.length cp) := (blk_cell BK10.out 0).trans rfl; have q5 : w7.cell? ⟨g10, 1, none⟩ = some (.slice Aw W.length cw) := (blk_cell BK10.out 1).trans rfl; have ha := blk_alloc BK9.out (.cells #[.slice La ls.length Lc, .pointer (some ⟨bt, 0, none⟩), .slice Aw W.length cw, .int .i64 left, .int .i64 right] 95); have hcz0 : (w7.alloc (.cells #[.slice La ls.length Lc, .pointer (some ⟨bt, 0, none⟩), .slice Aw W.length cw, .int .i64 left, .int .i64 right] 95)).cell? ⟨g9, 0, none⟩ = some (.int .i64 0) := (blk_cell ha 0).trans rfl; have hcz1 : (w7.alloc (.cells #[.slice La ls.length Lc, .pointer (some ⟨bt, 0, none⟩), .slice Aw W.length cw, .int .i64 left, .int .i64 right] 95)).cell? ⟨g9, 1, none⟩ = some (.int .i64 0) := (blk_cell ha 1).trans rfl; have hfz0 := blk_frozen ha 0; have hfz1 := blk_frozen ha 1; clear ha; clear hb hT))
    all_goals go_wp2_with fail
    all_goals
      have ha := blk_alloc BK9.out (.cells #[.slice La ls.length Lc, .pointer (some ⟨bt, 0, none⟩), .slice Aw W.length cw, .int .i64 left, .int .i64 right] 95)
      have ne : w7.heap.size ≠ g9 := Nat.ne_of_gt (blk_lt BK9.out)
      refine bodyPost_ret (results_tc rfl _ _ g9 46 #[.int .i64 0, .int .i64 0] (0, 0) _ rfl (blk_put (cs := #[.int .i64 0, .int .i64 0]) (blk_put (cs := #[.int .i64 0, .int .i64 0]) ha 0 _ rfl) 1 _ rfl) Try.underlying46 rfl (by kernel_rfl)) rfl ?_
      have x1 := blk_far (blk_far (blk_new w7 (.cells #[.slice La ls.length Lc, .pointer (some ⟨bt, 0, none⟩), .slice Aw W.length cw, .int .i64 left, .int .i64 right] 95)) ne (p := ⟨g9, 0, none⟩) (.int .i64 0)) ne (p := ⟨g9, 1, none⟩) (.int .i64 0)
      have x2 := (Kd.R_reads' (Kd.R_far (p := ⟨g9, 1, none⟩) (Kd.R_far (p := ⟨g9, 0, none⟩) (Kd.R_types (Kd.R_alloc HR.out _) ha (by decide)) (fun _ hk => hk.2) (.int .i64 0)) (fun _ hk => hk.2) (.int .i64 0))).2.2
      have x3 := ((HT.out.below (below_alloc (Below.refl _ _) (.cells #[.slice La ls.length Lc, .pointer (some ⟨bt, 0, none⟩), .slice Aw W.length cw, .int .i64 left, .int .i64 right] 95))).set NB9.out 0 (.int .i64 0)).set NB9.out 1 (.int .i64 0)
      have x4 := (Kd.S_reads' (Kd.S_far (p := ⟨g9, 1, none⟩) (Kd.S_far (p := ⟨g9, 0, none⟩) (Kd.S_types (Kd.S_alloc HS1.out _) ha (by decide)) (fun _ hk => hk.2) (.int .i64 0)) (fun _ hk => hk.2) (.int .i64 0))).2.2
      exact ⟨w7.heap.size, La, Lc, bt, _, Aw, cw, rfl, ⟨x1, x2, x3, x4, (Kd.S_reads' HS1.out).2.1⟩, below_set (below_set (below_alloc HB.out _) GE9.out) GE9.out⟩
end Go.Proofs.Ytoefjhdcipgacaa.Hy
end
section
namespace Go.Proofs.Ytoefjhdcipgacaa.Hy
open Go.RowKit Go.Proofs.YtoefjhdcipgacaaW.PrintWords Go.Proofs.YtoefjhdcipgacaaW.PrintLast Go.Proofs.YtoefjhdcipgacaaW.PrintMore
open Go.Proofs.Ytoefjhdcipgacaa.PA
attribute [local go_sem] max2_int min2_int max_two min_two
set_option linter.unusedSimpArgs false
set_option linter.unusedVariables false
def awP : List S39 := [⟨[104, 121, 112], [0, 0, 1, 0]⟩]
def awW : List S39 := [⟨[116, 97, 98, 108, 101], [0, 0, 1, 0, 0, 0]⟩]
def lowL : List S63 := [⟨97, 122, 97⟩]
set_option maxRecDepth 100000 in
theorem aw_parse : pats_Parse.f 40 { data := #[104, 121, 49, 112, 32, 116, 97, 45, 98, 108, 101] } = some (awP, awW, 0, 0) := by kernel_rfl
theorem low_check : hyph_Check.f 40 lowL = some true := by kernel_rfl
theorem aw_fit : Tr.Fit awP := by
  refine ⟨by decide, fun p hp => ?_⟩
  simp only [awP, List.mem_cons, List.not_mem_nil, or_false] at hp
  subst hp
  refine ⟨by decide, by decide, fun r hr => ?_, by decide⟩
  simp only [List.mem_cons, List.not_mem_nil, or_false] at hr
  rcases hr with rfl | rfl | rfl <;> exact ⟨by decide, by decide⟩
theorem aw_told : ∀ p ∈ awW, p.f1.length = p.f0.length + 1 := by decide
def hyphen : List Int := [104, 121, 112, 104, 101, 110]
def table : List Int := [116, 97, 98, 108, 101]
theorem word_of {l : List Int} (h : l.length ≤ 1000) (h2 : ∀ r ∈ l, -2147483648 ≤ r ∧ r ≤ 2147483647) : Tr.Word l := ⟨h, h2⟩
theorem hyphen_word : Tr.Word hyphen := word_of (by decide) (by decide)
theorem table_word : Tr.Word table := word_of (by decide) (by decide)
theorem aw_1 : pts (wordVals awP awW hyphen) 6 2 2 = [false, false, true, false, false, false, false] := by decide +kernel
theorem aw_2 : pts (wordVals awP awW table) 5 2 2 = [false, false, true, false, false, false] := by decide +kernel
theorem aw_3 : pts (wordVals awP awW table) 5 2 4 = [false, false, false, false, false, false] := by decide +kernel
set_option maxHeartbeats 8000000 in
set_option maxRecDepth 100000 in
theorem awake09_calls (w : World) : Calls Try.prog 24 #[] w fun e w' => e = .returned (.bool true) ∧ Below w.heap.size w w' := by
  have HB := Aside0.mk (Below.refl w.heap.size w)
  go_enter Try.func24, Try.ntmps24
  go_upto_region 1 with fail
  go_cut [1, 2] (fun v1 v2 wc => ∃ b La Lc bt base Wa Wc g2, v1 = .pointer (some ⟨b, 0, none⟩) ∧ v2 = .pointer (some ⟨g2, 0, none⟩) ∧ Aside0 (HyphAt wc b lowL (Tr.make (awP.map Tr.pq)) awW 2 2 La Lc bt base Wa Wc) ∧ Aside0 (wc.heap[g2]? = some (.cells #[.int .i64 0, .int .i64 0] 46 (0, 0))) ∧ Aside0 (Below w.heap.size w wc))
  case first =>
    go_wp2_with (first
      | ((with_reducible refine gate_callee (f := 36) rfl ?_); (refine goesL_ (some 9) rfl rfl Try.func36 (by kernel_rfl) rfl #[] rfl (by (try simp only [List.map_toArray, List.map_cons, List.map_nil]); first | done | rfl) ?_; refine (stanzalaw09_low.calls lowL _ rfl).mono ?_; rintro e wa ⟨v, rfl, hr, hb⟩; refine ⟨_, rfl, ?_⟩; obtain ⟨Al, cl, hv_, hl_, hc_⟩ := Kd.R_reads hr; subst hv_; have HLl := Aside0.mk hl_; have HLc := Aside0.mk hc_; replace HB := Aside0.mk (below_step HB.out hb); clear hb hr hl_ hc_))
      | ((with_reducible refine gate_callee (f := 26) rfl ?_); (refine goesL_ (some 10) rfl rfl Try.func26 (by kernel_rfl) rfl #[.string { data := #[104, 121, 49, 112, 32, 116, 97, 45, 98, 108, 101] }, .slice Al lowL.length cl, .int .i64 2, .int .i64 2] rfl (by (try simp only [List.map_toArray, List.map_cons, List.map_nil]); first | done | rfl) ?_; refine (new_ok 40 _ Al cl lowL 2 2 awP awW _ HLc.out HLl.out (by decide) low_check (by decide) (by decide) (by decide) (by decide) aw_parse aw_fit).mono ?_; rintro e wb ⟨b, La, Lc, bt, base, Wa, Wc, rfl, hH, hb⟩; refine ⟨_, rfl, ?_⟩; have HH := Aside0.mk hH; replace HB := Aside0.mk (below_step HB.out hb); clear hb hH HLl HLc))
      | ((with_reducible refine gate_dst (N := 2) rfl ?_); refine box_event ?hg (N := 2) ?hd (cs := #[.int .i64 0, .int .i64 0]) (t := 46) ?hr ?_; (case hd => rfl); (case hg => rfl); (case hr => first | (go_simp; done) | (go_simp; rfl)); intro gx hg wc1 hbox hb; have GE := Aside0.mk (by rw [hg]; exact below_size HB.out : w.heap.size ≤ gx); have GH := Aside0.mk (Nat.le_of_eq hg.symm : wb.heap.size ≤ gx); have BKx := Aside0.mk hbox; have HBb := Aside0.mk hb; replace HB := Aside0.mk (below_step HB.out hb); have hcz0 : wc1.cell? ⟨gx, 0, none⟩ = some (.int .i64 0) := (blk_cell hbox 0).trans rfl; have hcz1 : wc1.cell? ⟨gx, 1, none⟩ = some (.int .i64 0) := (blk_cell hbox 1).trans rfl; have hfz0 := blk_frozen hbox 0; have hfz1 := blk_frozen hbox 1; clear hb hbox hg))
    go_meet
    case rel =>
      refine ⟨b, La, Lc, bt, base, Wa, Wc, gx, rfl, rfl, ⟨HH.out.below (below_set (below_set HBb.out GH.out) GH.out)⟩, ⟨?_⟩, ⟨below_set (below_set HB.out GE.out) GE.out⟩⟩
      exact blk_put (cs := #[.int .i64 0, .int .i64 0]) (blk_put (cs := #[.int .i64 0, .int .i64 0]) BKx.out 0 _ rfl) 1 _ rfl
  case rest =>
    obtain ⟨b1, La1, Lc1, bt1, base1, Wa1, Wc1, g2, rfl, rfl, HH1, BK2, HB'⟩ := hcut
    clear HB
    have HB := HB'
    clear HB'
    rename World => wz
    go_upto_region 2 with fail
    go_cut [3, 4] (fun v3 v4 wc => ∃ b La Lc bt base Wa Wc g4, v3 = .pointer (some ⟨b, 0, none⟩) ∧ v4 = .pointer (some ⟨g4, 0, none⟩) ∧ Aside0 (HyphAt wc b1 lowL (Tr.make (awP.map Tr.pq)) awW 2 2 La1 Lc1 bt1 base1 Wa1 Wc1) ∧ Aside0 (HyphAt wc b lowL (Tr.make (awP.map Tr.pq)) awW 2 4 La Lc bt base Wa Wc) ∧ Aside0 (wc.heap[g2]? = some (.cells #[.int .i64 0, .int .i64 0] 46 (0, 0))) ∧ Aside0 (wc.heap[g4]? = some (.cells #[.int .i64 0, .int .i64 0] 46 (0, 0))) ∧ Aside0 (Below w.heap.size w wc))
    case first =>
      go_wp2_with (first
      | ((with_reducible refine gate_callee (f := 36) rfl ?_); (refine goesL_ (some 14) rfl rfl Try.func36 (by kernel_rfl) rfl #[] rfl (by (try simp only [List.map_toArray, List.map_cons, List.map_nil]); first | done | rfl) ?_; refine (stanzalaw09_low.calls lowL _ rfl).mono ?_; rintro e wa ⟨v, rfl, hr, hb⟩; refine ⟨_, rfl, ?_⟩; obtain ⟨Al, cl, hv_, hl_, hc_⟩ := Kd.R_reads hr; subst hv_; have HLl := Aside0.mk hl_; have HLc := Aside0.mk hc_; replace HB := Aside0.mk (below_step HB.out hb); replace HH1 := Aside0.mk (HH1.out.below hb); replace BK2 := Aside0.mk (blk_below BK2.out hb); clear hb hr hl_ hc_))
      | ((with_reducible refine gate_callee (f := 26) rfl ?_); (refine goesL_ (some 15) rfl rfl Try.func26 (by kernel_rfl) rfl #[.string { data := #[104, 121, 49, 112, 32, 116, 97, 45, 98, 108, 101] }, .slice Al lowL.length cl, .int .i64 2, .int .i64 4] rfl (by (try simp only [List.map_toArray, List.map_cons, List.map_nil]); first | done | rfl) ?_; refine (new_ok 40 _ Al cl lowL 2 4 awP awW _ HLc.out HLl.out (by decide) low_check (by decide) (by decide) (by decide) (by decide) aw_parse aw_fit).mono ?_; rintro e wb ⟨b, La, Lc, bt, base, Wa, Wc, rfl, hH, hb⟩; refine ⟨_, rfl, ?_⟩; have HH := Aside0.mk hH; replace HB := Aside0.mk (below_step HB.out hb); replace HH1 := Aside0.mk (HH1.out.below hb); replace BK2 := Aside0.mk (blk_below BK2.out hb); clear hb hH HLl HLc))
      | ((with_reducible refine gate_dst (N := 4) rfl ?_); refine box_event ?hg (N := 4) ?hd (cs := #[.int .i64 0, .int .i64 0]) (t := 46) ?hr ?_; (case hd => rfl); (case hg => rfl); (case hr => first | (go_simp; done) | (go_simp; rfl)); intro gx hg wc1 hbox hb; have GE := Aside0.mk (by rw [hg]; exact below_size HB.out : w.heap.size ≤ gx); have GH := Aside0.mk (Nat.le_of_eq hg.symm : wb.heap.size ≤ gx); have BKx := Aside0.mk hbox; have HBb := Aside0.mk hb; replace HB := Aside0.mk (below_step HB.out hb); have hcz0 : wc1.cell? ⟨gx, 0, none⟩ = some (.int .i64 0) := (blk_cell hbox 0).trans rfl; have hcz1 : wc1.cell? ⟨gx, 1, none⟩ = some (.int .i64 0) := (blk_cell hbox 1).trans rfl; have hfz0 := blk_frozen hbox 0; have hfz1 := blk_frozen hbox 1; clear hb hbox hg))
      go_meet
      case rel =>
        refine ⟨b, La, Lc, bt, base, Wa, Wc, gx, rfl, rfl, ⟨HH1.out.below (below_set (below_set HBb.out GH.out) GH.out)⟩, ⟨HH.out.below (below_set (below_set HBb.out GH.out) GH.out)⟩, ⟨blk_below BK2.out (below_set (below_set HBb.out GH.out) GH.out)⟩, ⟨?_⟩, ⟨below_set (below_set HB.out GE.out) GE.out⟩⟩
        exact blk_put (cs := #[.int .i64 0, .int .i64 0]) (blk_put (cs := #[.int .i64 0, .int .i64 0]) BKx.out 0 _ rfl) 1 _ rfl
    case rest =>
      obtain ⟨b2, La2, Lc2, bt2, base2, Wa2, Wc2, g4, rfl, rfl, HH1', HH2, BK2', BK4, HB'⟩ := hcut
      clear HB HH1 BK2
      rename World => wy
      have q2 : wy.cell? ⟨g2, 0, none⟩ = some (.int .i64 0) := (blk_cell BK2'.out 0).trans rfl
      have q4 : wy.cell? ⟨g4, 0, none⟩ = some (.int .i64 0) := (blk_cell BK4.out 0).trans rfl
      go_upto_region 5 with fail
      clear q2 q4 BK2' BK4
      have HB := HB'
      have HH1 := HH1'
      clear HB' HH1'
      go_cut [5, 6, 7] (fun v5 v6 v7 wc => ∃ A5 c5 A6 c6 A7 c7, v5 = .slice A5 7 c5 ∧ v6 = .slice A6 6 c6 ∧ v7 = .slice A7 6 c7 ∧ Aside0 (Kd.C Kd.bool wc A5 7 [false, false, true, false, false, false, false]) ∧ Aside0 (Kd.C Kd.bool wc A6 6 [false, false, true, false, false, false]) ∧ Aside0 (Kd.C Kd.bool wc A7 6 [false, false, false, false, false, false]) ∧ Aside0 (Below w.heap.size w wc))
      case first =>
        go_wp2_with (first
          | ((with_reducible refine gate_dst (N := 27) rfl ?_); (refine Kd.R_lit (Kd.int .i32) (w0 := w) w.heap.size 21 ?hg (N := 27) ?hd (xs := hyphen) (inner := [.int .i32 104, .int .i32 121, .int .i32 112, .int .i32 104, .int .i32 101, .int .i32 110]) (ok := fun _ => True) (okp := fun _ => True) ?hr ?hp (fun _ hk => hk) trivial HB.out (below_size HB.out) (by decide) ?_; (case hd => rfl); (case hg => rfl); (case hr => first | (go_simp; done) | (go_simp; rfl)); (case hp => exact (Reps.one (show Kd.M (Kd.int .i32) _ _ _ 104 [.int .i32 104] from rfl) (Reps.one (show Kd.M (Kd.int .i32) _ _ _ 121 [.int .i32 121] from rfl) (Reps.one (show Kd.M (Kd.int .i32) _ _ _ 112 [.int .i32 112] from rfl) (Reps.one (show Kd.M (Kd.int .i32) _ _ _ 104 [.int .i32 104] from rfl) (Reps.one (show Kd.M (Kd.int .i32) _ _ _ 101 [.int .i32 101] from rfl) (Reps.one (show Kd.M (Kd.int .i32) _ _ _ 110 [.int .i32 110] from rfl) (Reps.none _ _)))))))); intro v27 w27 ho hb_ hg_ hn_; clear hn_; obtain ⟨A27, c27, hv_, hl_, hc_⟩ := Kd.R_reads ho; subst hv_; have HL27 := Aside0.mk hl_; have HC27 := Aside0.mk hc_; have hb := below_none hg_; replace HH1 := Aside0.mk (HH1.out.below hb); replace HH2 := Aside0.mk (HH2.out.below hb); replace HB := Aside0.mk hb_; clear ho hb_ hg_ hl_ hc_ hb))
          | ((with_reducible refine gate_callee (f := 33) rfl ?_); (refine goesL_ (some 28) rfl rfl Try.func33 (by kernel_rfl) rfl #[.pointer (some ⟨b1, 0, none⟩), .slice A27 hyphen.length c27] rfl (by (try simp only [List.map_toArray, List.map_cons, List.map_nil]); first | done | rfl) ?_; refine (word_calls b1 lowL awP awW 2 2 La1 Lc1 bt1 base1 Wa1 Wc1 A27 c27 hyphen _ HH1.out HC27.out HL27.out aw_fit hyphen_word (by decide) (by decide) aw_told).mono ?_; rintro e wa ⟨v, rfl, hr, hb⟩; refine ⟨_, rfl, ?_⟩; rw [show hyphen.length = 6 from rfl, aw_1] at hr; obtain ⟨A5, c5, hv_, hl_, hc_⟩ := Kd.R_reads hr; subst hv_; have HC5 := Aside0.mk hc_; replace HH1 := Aside0.mk (HH1.out.below hb); replace HH2 := Aside0.mk (HH2.out.below hb); replace HB := Aside0.mk (below_step HB.out hb); clear hb hr hl_ hc_))
          | ((with_reducible refine gate_dst (N := 30) rfl ?_); (refine Kd.R_lit (Kd.int .i32) (w0 := w) w.heap.size 21 ?hg (N := 30) ?hd (xs := table) (inner := [.int .i32 116, .int .i32 97, .int .i32 98, .int .i32 108, .int .i32 101]) (ok := fun _ => True) (okp := fun _ => True) ?hr ?hp (fun _ hk => hk) trivial HB.out (below_size HB.out) (by decide) ?_; (case hd => rfl); (case hg => rfl); (case hr => first | (go_simp; done) | (go_simp; rfl)); (case hp => exact (Reps.one (show Kd.M (Kd.int .i32) _ _ _ 116 [.int .i32 116] from rfl) (Reps.one (show Kd.M (Kd.int .i32) _ _ _ 97 [.int .i32 97] from rfl) (Reps.one (show Kd.M (Kd.int .i32) _ _ _ 98 [.int .i32 98] from rfl) (Reps.one (show Kd.M (Kd.int .i32) _ _ _ 108 [.int .i32 108] from rfl) (Reps.one (show Kd.M (Kd.int .i32) _ _ _ 101 [.int .i32 101] from rfl) (Reps.none _ _))))))); intro v30 w30 ho hb_ hg_ hn_; clear hn_; obtain ⟨A30, c30, hv_, hl_, hc_⟩ := Kd.R_reads ho; subst hv_; have HL30 := Aside0.mk hl_; have HC30 := Aside0.mk hc_; have hb := below_none hg_; replace HC5 := Aside0.mk (Kd.C_below HC5.out hb); replace HH1 := Aside0.mk (HH1.out.below hb); replace HH2 := Aside0.mk (HH2.out.below hb); replace HB := Aside0.mk hb_; clear ho hb_ hg_ hl_ hc_ hb))
          | ((with_reducible refine gate_callee (f := 33) rfl ?_); (refine goesL_ (some 31) rfl rfl Try.func33 (by kernel_rfl) rfl #[.pointer (some ⟨b1, 0, none⟩), .slice A30 table.length c30] rfl (by (try simp only [List.map_toArray, List.map_cons, List.map_nil]); first | done | rfl) ?_; refine (word_calls b1 lowL awP awW 2 2 La1 Lc1 bt1 base1 Wa1 Wc1 A30 c30 table _ HH1.out HC30.out HL30.out aw_fit table_word (by decide) (by decide) aw_told).mono ?_; rintro e wa ⟨v, rfl, hr, hb⟩; refine ⟨_, rfl, ?_⟩; rw [show table.length = 5 from rfl, aw_2] at hr; obtain ⟨A6, c6, hv_, hl_, hc_⟩ := Kd.R_reads hr; subst hv_; have HC6 := Aside0.mk hc_; replace HC5 := Aside0.mk (Kd.C_below HC5.out hb); replace HH2 := Aside0.mk (HH2.out.below hb); replace HB := Aside0.mk (below_step HB.out hb); clear hb hr hl_ hc_))
          | ((with_reducible refine gate_dst (N := 33) rfl ?_); (refine Kd.R_lit (Kd.int .i32) (w0 := w) w.heap.size 21 ?hg (N := 33) ?hd (xs := table) (inner := [.int .i32 116, .int .i32 97, .int .i32 98, .int .i32 108, .int .i32 101]) (ok := fun _ => True) (okp := fun _ => True) ?hr ?hp (fun _ hk => hk) trivial HB.out (below_size HB.out) (by decide) ?_; (case hd => rfl); (case hg => rfl); (case hr => first | (go_simp; done) | (go_simp; rfl)); (case hp => exact (Reps.one (show Kd.M (Kd.int .i32) _ _ _ 116 [.int .i32 116] from rfl) (Reps.one (show Kd.M (Kd.int .i32) _ _ _ 97 [.int .i32 97] from rfl) (Reps.one (show Kd.M (Kd.int .i32) _ _ _ 98 [.int .i32 98] from rfl) (Reps.one (show Kd.M (Kd.int .i32) _ _ _ 108 [.int .i32 108] from rfl) (Reps.one (show Kd.M (Kd.int .i32) _ _ _ 101 [.int .i32 101] from rfl) (Reps.none _ _))))))); intro v33 w33 ho hb_ hg_ hn_; clear hn_; obtain ⟨A33, c33, hv_, hl_, hc_⟩ := Kd.R_reads ho; subst hv_; have HL33 := Aside0.mk hl_; have HC33 := Aside0.mk hc_; have hb := below_none hg_; replace HC5 := Aside0.mk (Kd.C_below HC5.out hb); replace HC6 := Aside0.mk (Kd.C_below HC6.out hb); replace HH2 := Aside0.mk (HH2.out.below hb); replace HB := Aside0.mk hb_; clear ho hb_ hg_ hl_ hc_ hb))
          | ((with_reducible refine gate_callee (f := 33) rfl ?_); (refine goesL_ (some 34) rfl rfl Try.func33 (by kernel_rfl) rfl #[.pointer (some ⟨b2, 0, none⟩), .slice A33 table.length c33] rfl (by (try simp only [List.map_toArray, List.map_cons, List.map_nil]); first | done | rfl) ?_; refine (word_calls b2 lowL awP awW 2 4 La2 Lc2 bt2 base2 Wa2 Wc2 A33 c33 table _ HH2.out HC33.out HL33.out aw_fit table_word (by decide) (by decide) aw_told).mono ?_; rintro e wa ⟨v, rfl, hr, hb⟩; refine ⟨_, rfl, ?_⟩; rw [show table.length = 5 from rfl, aw_3] at hr; obtain ⟨A7, c7, hv_, hl_, hc_⟩ := Kd.R_reads hr; subst hv_; have HC7 := Aside0.mk hc_; replace HC5 := Aside0.mk (Kd.C_below HC5.out hb); replace HC6 := Aside0.mk (Kd.C_below HC6.out hb); replace HB := Aside0.mk (below_step HB.out hb); clear hb hr hl_ hc_)))
        go_meet
        case rel => exact ⟨A5, c5, A6, c6, A7, c7, rfl, rfl, rfl, HC5, HC6, HC7, HB⟩
      case rest =>
        obtain ⟨A5, c5, A6, c6, A7, c7, rfl, rfl, rfl, HC5, HC6, HC7, HB'⟩ := hcut
        obtain ⟨ad5, e5, x52⟩ := Kd.at_bool HC5.out 2 (by decide) (by decide)
        subst e5
        obtain ⟨ad5', e5, x53⟩ := Kd.at_bool HC5.out 3 (by decide) (by decide)
        injection e5 with e5
        subst e5
        obtain ⟨ad6, e6, x62⟩ := Kd.at_bool HC6.out 2 (by decide) (by decide)
        subst e6
        obtain ⟨ad7, e7, x72⟩ := Kd.at_bool HC7.out 2 (by decide) (by decide)
        subst e7
        replace x52 : wc.cell? ⟨ad5.block, ad5.off + 2, none⟩ = some (.bool true) := x52
        replace x53 : wc.cell? ⟨ad5.block, ad5.off + 3, none⟩ = some (.bool false) := x53
        replace x62 : wc.cell? ⟨ad6.block, ad6.off + 2, none⟩ = some (.bool true) := x62
        replace x72 : wc.cell? ⟨ad7.block, ad7.off + 2, none⟩ = some (.bool false) := x72
        go_wp2_with fail
        go_ret
        exact ⟨rfl, HB'.out⟩
end Go.Proofs.Ytoefjhdcipgacaa.Hy
end
section
namespace Go.Proofs.Ytoefjhdcipgacaa.Hy
open Go.RowKit Go.Proofs.YtoefjhdcipgacaaW.PrintWords Go.Proofs.YtoefjhdcipgacaaW.PrintLast Go.Proofs.YtoefjhdcipgacaaW.PrintMore
open Go.Proofs.Ytoefjhdcipgacaa.PA Go.Proofs.Ytoefjhdcipgacaa.Dec
abbrev codeOf (s : ByteArray) : Int := (parseOf s).2.2.1
abbrev atOf (s : ByteArray) : Int := (parseOf s).2.2.2
abbrev patsOf (s : ByteArray) : List S39 := (parseOf s).1
abbrev toldOf (s : ByteArray) : List S39 := (parseOf s).2.1
theorem pparse_zero (f : Nat) : ∀ (l : List S66) (xs ws : List S39), (pparse f l xs ws).2.2.1 = 0 → (pparse f l xs ws).2.2.2 = 0 := by
  induction f with
  | zero => intro l xs ws _; rfl
  | succ f ih =>
    intro l xs ws h
    cases l with
    | nil => rfl
    | cons s t =>
      rw [pparse] at h ⊢
      split at h
      · rename_i hb; rw [if_pos hb]; exact ih _ _ _ h
      · rename_i hb
        rw [if_neg hb]
        split at h
        · cases h
        · rename_i hm
          rw [if_neg hm]
          dsimp only at h ⊢
          split at h
          · rename_i hok
            rw [if_pos hok]
            split at h
            · rename_i hh
              rw [if_pos hh]
              split at h
              · cases h
              · rename_i hk; rw [if_neg hk]; exact ih _ _ _ h
            · rename_i hh; rw [if_neg hh]; exact ih _ _ _ h
          · cases h
theorem at_zero {s : ByteArray} (h : codeOf s = 0) : atOf s = 0 := by
  unfold codeOf atOf parseOf at *
  split at h
  · cases h
  · rename_i hs; rw [if_neg hs]; exact pparse_zero _ _ _ _ h
theorem parse_eq' (s : ByteArray) : pats_Parse.f 40000 s = some (patsOf s, toldOf s, codeOf s, atOf s) := parse_eq s 40000 (Nat.le_refl _)
theorem newB (s : ByteArray) (A : Option Addr) (c : Nat) (ls : List S63) (left right : Int) (w : World) (hl : Kd.C k63 w A ls.length ls) (hlc : ls.length ≤ c) (hck : hyph_Check.f 40000 ls = some true) (h1 : 1 ≤ left ∧ left ≤ 24) (h2 : 1 ≤ right ∧ right ≤ 24) (hc : codeOf s ≠ 0) :
    Calls Try.prog 26 #[.string s, .slice A ls.length c, .int .i64 left, .int .i64 right] w fun e w' => e = .returned (.tuple #[.pointer none, .agg #[.int .i64 (codeOf s), .int .i64 (atOf s)]]) ∧ Below w.heap.size w w' :=
  new_bad3 40000 s A c ls left right (patsOf s) (toldOf s) (codeOf s) (atOf s) w hl hlc hck h1.1 h2.1 h1.2 h2.2 (parse_eq' s) hc
theorem newC (s : ByteArray) (A : Option Addr) (c : Nat) (ls : List S63) (left right : Int) (w : World) (hl : Kd.C k63 w A ls.length ls) (hlc : ls.length ≤ c) (h8 : ls.length ≤ 1000000) (hck : hyph_Check.f 40000 ls = some true) (h1 : 1 ≤ left ∧ left ≤ 24) (h2 : 1 ≤ right ∧ right ≤ 24) (hc : codeOf s = 0) :
    Calls Try.prog 26 #[.string s, .slice A ls.length c, .int .i64 left, .int .i64 right] w fun e w' => ∃ b La Lc bt base Wa Wc, e = .returned (.tuple #[.pointer (some ⟨b, 0, none⟩), .agg #[.int .i64 0, .int .i64 0]]) ∧ HyphAt w' b ls (Tr.make ((patsOf s).map Tr.pq)) (toldOf s) left right La Lc bt base Wa Wc ∧ Below w.heap.size w w' :=
  new_ok 40000 s A c ls left right (patsOf s) (toldOf s) w hl hlc h8 hck h1.1 h2.1 h1.2 h2.2 (by rw [parse_eq' s, hc, at_zero hc]) (parseOf_fit s)
def letter4 (r : Int) : Int := rd [97, 98, 99, 100] (r % 4294967296 % 4)
def fewL (fit : Bool) (l : List Int) : List Int := (l.take 80).map fun r => if fit = true then letter4 r else r
theorem few_run (fit : Bool) (l : List Int) (m : Nat) : ∀ (i k : Nat) (xs : List Int), 80 - i ≤ m → i ≤ l.length → i ≤ 80 → xs.length = i → m + 2 ≤ k → stanzalaw09_few.l0 k fit xs l (l.length : Int) (i : Int) = some (xs ++ ((l.take 80).drop i).map fun r => if fit = true then letter4 r else r) := by
  induction m with
  | zero =>
    intro i k xs hm hi h8 hx hk
    have hi8 : i = 80 := by omega
    obtain ⟨k, rfl⟩ : ∃ k', k = k' + 1 := ⟨k - 1, by omega⟩
    rw [stanzalaw09_few.l0.eq_2, List.drop_eq_nil_of_le (by rw [List.length_take]; omega), List.map_nil, List.append_nil]
    by_cases h : (i : Int) < (l.length : Int)
    · rw [if_pos h, if_pos (by omega), if_pos h, if_pos (by omega)]
    · rw [if_neg h]
  | succ m ih =>
    intro i k xs hm hi h8 hx hk
    obtain ⟨k, rfl⟩ : ∃ k', k = k' + 1 := ⟨k - 1, by omega⟩
    rw [stanzalaw09_few.l0.eq_2]
    by_cases h : (i : Int) < (l.length : Int)
    · rw [if_pos h, if_pos (by omega), if_pos h]
      by_cases h80 : (i : Int) ≥ 80
      · rw [if_pos h80, List.drop_eq_nil_of_le (by rw [List.length_take]; omega), List.map_nil, List.append_nil]
      · rw [if_neg h80]
        have hil : i < l.length := by omega
        have hit : i < (l.take 80).length := by rw [List.length_take]; omega
        have hr : rd l (i : Int) = l[i] := by simp [rd, List.getD_eq_getElem?_getD, List.getElem?_eq_getElem hil]
        have hd : (l.take 80).drop i = l[i] :: (l.take 80).drop (i + 1) := by
          rw [List.drop_eq_getElem_cons hit, List.getElem_take]
        have hw : wrap64 ((i : Int) + 1) = ((i + 1 : Nat) : Int) := by rw [w64 _ ⟨by omega, by omega⟩]; omega
        rw [hd, List.map_cons, hr, hw]
        cases fit with
        | true =>
          rw [if_pos rfl, Option.bind_some, if_pos (by omega), if_pos (by simp only [List.length_cons, List.length_nil]; omega), if_pos (by omega)]
          rw [ih (i + 1) k _ (by omega) (by omega) (by omega) (by rw [List.length_append, hx]; rfl) (by omega), List.append_assoc]
          rfl
        | false =>
          rw [if_neg (by decide), if_pos (by omega)]
          rw [ih (i + 1) k _ (by omega) (by omega) (by omega) (by rw [List.length_append, hx]; rfl) (by omega), List.append_assoc]
          rfl
    · rw [if_neg h, List.drop_eq_nil_of_le (by rw [List.length_take]; omega), List.map_nil, List.append_nil]
theorem few_eq (fit : Bool) (l : List Int) : stanzalaw09_few.f 100 l fit = some (fewL fit l) := by
  have := few_run fit l 80 0 100 [] (by omega) (Nat.zero_le _) (by omega) rfl (by omega)
  rw [List.nil_append, List.drop_zero] at this
  exact this
theorem letter4_in (r : Int) : 97 ≤ letter4 r ∧ letter4 r ≤ 100 := by
  unfold letter4
  have h1 : 0 ≤ r % 4294967296 % 4 := Int.emod_nonneg _ (by decide)
  have h2 : r % 4294967296 % 4 < 4 := Int.emod_lt_of_pos _ (by decide)
  obtain ⟨n, hn⟩ : ∃ n : Nat, (r % 4294967296 % 4) = (n : Int) := ⟨(r % 4294967296 % 4).toNat, by omega⟩
  rw [hn]
  have : n < 4 := by omega
  match n, this with
  | 0, _ => exact ⟨by decide, by decide⟩
  | 1, _ => exact ⟨by decide, by decide⟩
  | 2, _ => exact ⟨by decide, by decide⟩
  | 3, _ => exact ⟨by decide, by decide⟩
theorem fewL_len (fit : Bool) (l : List Int) : (fewL fit l).length ≤ 80 := by
  unfold fewL
  rw [List.length_map, List.length_take]; omega
theorem fewL_word (fit : Bool) (l : List Int) (h : ∀ r ∈ l, Tr.In32 r) : Tr.Word (fewL fit l) := by
  refine ⟨Nat.le_trans (fewL_len fit l) (by decide), fun r hr => ?_⟩
  obtain ⟨s, hs, rfl⟩ := List.mem_map.1 hr
  cases fit with
  | false => exact h s (List.mem_of_mem_take hs)
  | true => have := letter4_in s; exact ⟨by show _ ≤ letter4 s; omega, by show letter4 s ≤ _; omega⟩
end Go.Proofs.Ytoefjhdcipgacaa.Hy
end
section
namespace Go.Proofs.Ytoefjhdcipgacaa.Hy
open Go.RowKit Go.Proofs.YtoefjhdcipgacaaW.PrintWords Go.Proofs.YtoefjhdcipgacaaW.PrintLast Go.Proofs.YtoefjhdcipgacaaW.PrintMore
open Go.Proofs.Ytoefjhdcipgacaa.PA Go.Proofs.Ytoefjhdcipgacaa.Dec
theorem letOf_in {ls : List S63} (h : LsOk ls) (r : Int) (h2 : (letOf ls r).2 = true) : Tr.In32 (letOf ls r).1 := by
  unfold letOf at *
  cases hf : ls.find? fun x => decide (x.f0 ≤ r ∧ r ≤ x.f1) with
  | none => rw [hf] at h2; cases h2
  | some x =>
    have hx : x.f0 ≤ r ∧ r ≤ x.f1 := by simpa using List.find?_some hf
    obtain ⟨i, hi, he⟩ := List.getElem_of_mem (List.mem_of_find?_eq_some hf)
    have := h.2.1 i hi
    rw [rd63 hi, he] at this
    exact ⟨by show _ ≤ x.f2 + r - x.f0; omega, by show x.f2 + r - x.f0 ≤ _; omega⟩
theorem runOf_in {ls : List S63} (h : LsOk ls) (xs : List S66) : ∀ r ∈ runOf ls xs, Tr.In32 r := by
  induction xs with
  | nil => intro r hr; cases hr
  | cons s t ih =>
    intro r hr
    rw [runOf] at hr
    split at hr
    · rename_i hl
      rcases List.mem_cons.1 hr with rfl | hr
      · exact letOf_in h _ hl
      · exact ih r hr
    · cases hr
theorem run_word {ls : List S63} (h : LsOk ls) (xs : List S66) (hl : (runOf ls xs).length ≤ 1000) : Tr.Word (runOf ls xs) := ⟨hl, runOf_in h xs⟩
def aL : List S63 := [⟨65, 90, 97⟩, ⟨97, 122, 97⟩]
theorem aL_ok : LsOk aL := by
  refine ⟨by decide, fun i hi => ?_, fun i j hij hj => ?_⟩
  · have : i = 0 ∨ i = 1 := by have : i < 2 := hi; omega
    rcases this with rfl | rfl <;> decide
  · have : i = 0 ∧ j = 1 := by have : j < 2 := hj; omega
    obtain ⟨rfl, rfl⟩ := this
    decide
theorem aL_small (r : Int) (h : 97 ≤ r ∧ r ≤ 100) : letOf aL r = (r, true) := by
  have : r = 97 ∨ r = 98 ∨ r = 99 ∨ r = 100 := by omega
  rcases this with rfl | rfl | rfl | rfl <;> decide
theorem aL_great (r : Int) (h : 97 ≤ r ∧ r ≤ 100) : letOf aL (r - 32) = (r, true) := by
  have : r = 97 ∨ r = 98 ∨ r = 99 ∨ r = 100 := by omega
  rcases this with rfl | rfl | rfl | rfl <;> decide
theorem aL_blank : (letOf aL 32).2 = false := by decide
def lift (g : Bool) (r : Int) : Int := if g = true then r - 32 else r
theorem aL_lift (g : Bool) (r : Int) (h : 97 ≤ r ∧ r ≤ 100) : letOf aL (lift g r) = (r, true) := by
  cases g with
  | true => exact aL_great r h
  | false => exact aL_small r h
def rOf (gs : List Bool) : Nat → List (List Int) → List Int
  | _, [] => []
  | j, w :: t => (fewL true w).map (lift (gs.getD j false)) ++ 32 :: rOf gs (j + 1) t
def oneOf (P Ws : List S39) (D : List Int) : List Bool := (pts (wordVals P Ws D) D.length 1 1).take D.length
def wOf (P Ws : List S39) : List (List Int) → List Bool
  | [] => []
  | w :: t => oneOf P Ws (fewL true w) ++ false :: wOf P Ws t
theorem runOf_pre {ls : List S63} (g : Int → Int) (rest : List Int) (hb : (letOf ls 32).2 = false) (D : List Int) : ∀ xs : List S66, xs.map S66.f0 = D.map g ++ 32 :: rest → (∀ r ∈ D, letOf ls (g r) = (r, true)) → runOf ls xs = D := by
  induction D with
  | nil =>
    intro xs hx _
    cases xs with
    | nil => simp at hx
    | cons s t =>
      simp only [List.map_cons, List.map_nil, List.nil_append, List.cons.injEq] at hx
      rw [runOf, hx.1, if_neg (by rw [hb]; decide)]
  | cons r D ih =>
    intro xs hx hD
    cases xs with
    | nil => simp at hx
    | cons s t =>
      simp only [List.map_cons, List.cons_append, List.cons.injEq] at hx
      rw [runOf, hx.1, hD r (List.mem_cons_self ..), if_pos rfl, ih t hx.2 (fun r' h => hD r' (List.mem_cons_of_mem _ h))]
theorem fewL_small (w : List Int) : ∀ r ∈ fewL true w, 97 ≤ r ∧ r ≤ 100 := by
  intro r hr
  obtain ⟨s, _, rfl⟩ := List.mem_map.1 hr
  exact letter4_in s
theorem map_drop_eq {xs : List S66} {A : List Int} {b : Int} {R : List Int} (h : xs.map S66.f0 = A ++ b :: R) : (xs.drop (A.length + 1)).map S66.f0 = R ∧ A.length < xs.length := by
  have hl := congrArg List.length h
  rw [List.length_map, List.length_append, List.length_cons] at hl
  refine ⟨?_, by omega⟩
  rw [List.map_drop, h, show A ++ b :: R = (A ++ [b]) ++ R by simp, List.drop_append, List.length_append, List.length_singleton, Nat.sub_self, List.drop_zero, List.drop_of_length_le (by simp), List.nil_append]
theorem apart_pts (gs : List Bool) (P Ws : List S39) (t : List (List Int)) : ∀ (j f : Nat) (xs : List S66), xs.map S66.f0 = rOf gs j t → xs.length ≤ f → pointsOf aL P Ws 1 1 f xs = wOf P Ws t ++ [false] := by
  induction t with
  | nil =>
    intro j f xs hx _
    have : xs = [] := by simpa [rOf] using hx
    subst this
    exact pointsOf_end ..
  | cons w t ih =>
    intro j f xs hx hf
    rw [rOf] at hx
    have hr := runOf_pre (ls := aL) _ _ aL_blank (fewL true w) xs hx (fun r h => aL_lift _ r (fewL_small w r h))
    have hd := map_drop_eq hx
    rw [List.length_map] at hd
    obtain ⟨f, rfl⟩ : ∃ f', f = f' + 1 := ⟨f - 1, by omega⟩
    rw [pointsOf, hr, if_pos hd.2, ih (j + 1) f _ hd.1 (by rw [List.length_drop]; omega), wOf, oneOf]
    · simp
    · intro h; rw [h] at hd; simp at hd
theorem apart_run (gs : List Bool) (t : List (List Int)) : ∀ (j : Nat) (xs : List S66), xs.map S66.f0 = rOf gs j t → ∀ i, (runOf aL (xs.drop i)).length ≤ 80 := by
  induction t with
  | nil =>
    intro j xs hx i
    have : xs = [] := by simpa [rOf] using hx
    subst this
    rw [List.drop_nil]
    exact Nat.zero_le _
  | cons w t ih =>
    intro j xs hx i
    rw [rOf] at hx
    have hd := map_drop_eq hx
    rw [List.length_map] at hd
    rcases Nat.lt_or_ge (fewL true w).length i with h | h
    · have := ih (j + 1) _ hd.1 (i - ((fewL true w).length + 1))
      rw [List.drop_drop, show (fewL true w).length + 1 + (i - ((fewL true w).length + 1)) = i by omega] at this
      exact this
    · have he : (xs.drop i).map S66.f0 = ((fewL true w).drop i).map (lift (gs.getD j false)) ++ 32 :: rOf gs (j + 1) t := by
        rw [List.map_drop, hx, List.drop_append, List.length_map, List.map_drop, show i - (fewL true w).length = 0 by omega, List.drop_zero]
      rw [runOf_pre (ls := aL) _ _ aL_blank _ _ he (fun r h => aL_lift _ r (fewL_small w r (List.mem_of_mem_drop h))), List.length_drop]
      have := fewL_len true w
      omega
theorem apart_words (gs : List Bool) (t : List (List Int)) (j : Nat) (xs : List S66) (h : xs.map S66.f0 = rOf gs j t) (i : Nat) : Tr.Word (runOf aL (xs.drop i)) := run_word aL_ok _ (Nat.le_trans (apart_run gs t j xs h i) (by decide))
theorem same_self (l : List Bool) (hl : l.length ≤ 100000) (m : Nat) : ∀ (i k : Nat), l.length - i ≤ m → i ≤ l.length → m + 2 ≤ k → stanzaref07_SameBools.l0 k l l (i : Int) = some true := by
  induction m with
  | zero =>
    intro i k hm hi hk
    obtain ⟨k, rfl⟩ : ∃ k', k = k' + 1 := ⟨k - 1, by omega⟩
    rw [stanzaref07_SameBools.l0.eq_2, if_neg (by omega)]
  | succ m ih =>
    intro i k hm hi hk
    obtain ⟨k, rfl⟩ : ∃ k', k = k' + 1 := ⟨k - 1, by omega⟩
    rw [stanzaref07_SameBools.l0.eq_2]
    by_cases h : (i : Int) < (l.length : Int)
    · rw [if_pos h, if_pos (by omega), if_pos h, if_neg (by simp), w64 _ ⟨by omega, by omega⟩, show ((i : Int) + 1) = ((i + 1 : Nat) : Int) by omega]
      exact ih (i + 1) k (by omega) (by omega) (by omega)
    · rw [if_neg h]
theorem same_f (l : List Bool) (hl : l.length ≤ 100000) : stanzaref07_SameBools.f 100002 l l = some true := by
  unfold stanzaref07_SameBools.f
  rw [if_pos rfl]
  exact same_self l hl l.length 0 100002 (by omega) (Nat.zero_le _) (by omega)
end Go.Proofs.Ytoefjhdcipgacaa.Hy
end
section
namespace Go.Proofs.Ytoefjhdcipgacaa.Hy
open Go.RowKit Go.Proofs.YtoefjhdcipgacaaW.PrintWords Go.Proofs.YtoefjhdcipgacaaW.PrintLast Go.Proofs.YtoefjhdcipgacaaW.PrintMore
open Go.Proofs.Ytoefjhdcipgacaa.PA Go.Proofs.Ytoefjhdcipgacaa.Dec
theorem check_run {ls : List S63} (h : LsOk ls) (m : Nat) : ∀ (i k : Nat) (last : Int), ls.length - i ≤ m → i ≤ ls.length → m + 2 ≤ k → (∀ j : Nat, i ≤ j → j < ls.length → last < (rd_T63 ls (j : Int)).f0) → hyph_Check.l0 k last ls (ls.length : Int) (i : Int) = some true := by
  have hl := h.1
  induction m with
  | zero =>
    intro i k last hm hi hk _
    obtain ⟨k, rfl⟩ : ∃ k', k = k' + 1 := ⟨k - 1, by omega⟩
    rw [hyph_Check.l0.eq_2, if_neg (by omega)]
  | succ m ih =>
    intro i k last hm hi hk hlast
    obtain ⟨k, rfl⟩ : ∃ k', k = k' + 1 := ⟨k - 1, by omega⟩
    rw [hyph_Check.l0.eq_2]
    by_cases hc : (i : Int) < (ls.length : Int)
    · have g := h.2.1 i (by omega)
      have g2 := hlast i (Nat.le_refl _) (by omega)
      have g3 : ∀ j : Nat, i + 1 ≤ j → j < ls.length → (rd_T63 ls (i : Int)).f1 < (rd_T63 ls (j : Int)).f0 := fun j hj1 hj2 => h.2.2 i j (by omega) hj2
      clear hlast
      generalize rd_T63 ls (i : Int) = y0 at g g2 g3 ⊢
      rw [if_pos hc, if_pos (by omega), if_pos hc, if_neg (by omega), if_neg (by omega), if_neg (by omega), if_neg (by omega)]
      have e1 : wrap32 (y0.f1 - y0.f0) = y0.f1 - y0.f0 := w32 _ ⟨by omega, by omega⟩
      have e2 : wrap64 (y0.f1 - y0.f0) = y0.f1 - y0.f0 := w64 _ ⟨by omega, by omega⟩
      have e3 : wrap64 (1114111 - (y0.f1 - y0.f0)) = 1114111 - (y0.f1 - y0.f0) := w64 _ ⟨by omega, by omega⟩
      have e4 : wrap64 ((i : Int) + 1) = ((i + 1 : Nat) : Int) := by rw [w64 _ ⟨by omega, by omega⟩]; omega
      simp only [e1, e2, e3, e4]
      clear e1 e2 e3 e4
      rw [if_neg (by omega)]
      exact ih (i + 1) k _ (by omega) (by omega) (by omega) g3
    · rw [if_neg hc]
theorem check_ok {ls : List S63} (h : LsOk ls) (k : Nat) (hk : 300 ≤ k) : hyph_Check.f k ls = some true := by
  have hl := h.1
  unfold hyph_Check.f
  rw [if_neg (by omega)]
  exact check_run h ls.length 0 k (-1) (by omega) (Nat.zero_le _) (by omega) (fun j _ hj => by have := (h.2.1 j hj).1; omega)
end Go.Proofs.Ytoefjhdcipgacaa.Hy
end
section
namespace Go.Proofs.Ytoefjhdcipgacaa.Hy
open Go.RowKit Go.Proofs.YtoefjhdcipgacaaW.PrintWords Go.Proofs.YtoefjhdcipgacaaW.PrintLast Go.Proofs.YtoefjhdcipgacaaW.PrintMore
open Go.Proofs.Ytoefjhdcipgacaa.PA Go.Proofs.Ytoefjhdcipgacaa.Dec
attribute [local go_sem] max2_int min2_int max_two min_two
set_option linter.unusedSimpArgs false
set_option linter.unusedVariables false
theorem aL_chk : hyph_Check.f 40000 aL = some true := check_ok aL_ok _ (by decide)
theorem at_rows {w : World} {A : Option Addr} {n : Nat} {xs : List (List Int)} (h : (Kd.slice 21 (Kd.int .i32)).C w A n xs) (i : Nat) (hi : i < n) :
    ∃ ad A' c', A = some ad ∧ w.cell? (ad.add i) = some (.slice A' (xs.getD i []).length c') ∧ (xs.getD i []).length ≤ c' ∧ Kd.C (Kd.int .i32) w A' (xs.getD i []).length (xs.getD i []) := by
  obtain ⟨ad, cs, e, hl, ⟨A', c', rfl, hle, hC⟩, hc⟩ := Kd.C_get h [] (i : Int) (by omega) (by omega)
  have := hc 0 _ rfl
  rw [Int.toNat_natCast] at this hle hC
  refine ⟨ad, A', c', e, ?_, hle, hC⟩
  rw [show i * (Kd.slice 21 (Kd.int .i32)).sz + 0 = i by show i * 1 + 0 = i; omega] at this
  exact this
theorem R_typed {α : Type} {d : Kd α} {e : Nat} {W : World} {base : Nat} {ok : Nat → Prop} {v : Value} {xs : List α} (h : d.R e W base ok v xs) (k : Nat) (hk : v.ownBlock = some k) : ∃ cells, W.heap[k]? = some (.cells cells e (0, 0)) := by
  obtain ⟨_, inner, hown, _⟩ := h
  exact own_typed hown k hk
theorem grown_other {α β : Type} {d : Kd α} {d' : Kd β} {e e' : Nat} {W w1 : World} {base base' : Nat} {ok ok' : Nat → Prop} {v u : Value} {xs : List α} {ys : List β} (h : d.R e W base ok v xs) (hE : d.E = []) (h' : d'.R e' W base' ok' u ys) (hg : W.grownBy w1 u.ownBlock) (hne : e ≠ e') : d.R e w1 base ok v xs :=
  Kd.R_grown2 h hE hg (fun k hk => by
    obtain ⟨cs, hcs⟩ := R_typed h' k hk
    exact Kd.R_ne h hcs hne)
theorem getD_drop {ws : List (List Int)} {i : Nat} (hi : i < ws.length) : ws.drop i = ws.getD i [] :: ws.drop (i + 1) := by
  rw [List.drop_eq_getElem_cons hi, List.getD_eq_getElem?_getD, List.getElem?_eq_getElem hi, Option.getD_some]
theorem take_rd (D : List Int) (k : Nat) (hk : k < D.length) : D.take (k + 1) = D.take k ++ [rd D (k : Int)] := by
  rw [rd, Int.toNat_natCast, List.getD_eq_getElem?_getD, List.getElem?_eq_getElem hk, Option.getD_some, List.take_append_getElem hk]
theorem take_rdOf (D : List Bool) (k : Nat) (hk : k < D.length) : D.take (k + 1) = D.take k ++ [rdOf false D (k : Int)] := by
  rw [rdOf, Int.toNat_natCast, List.getD_eq_getElem?_getD, List.getElem?_eq_getElem hk, Option.getD_some, List.take_append_getElem hk]
set_option maxHeartbeats 8000000 in
set_option maxRecDepth 100000 in
theorem apart_walk (s : ByteArray) (ws : List (List Int)) (A : Option Addr) (c : Nat) (gs : List Bool) (Ag : Option Addr) (cg : Nat) (w : World) (hs : s.size ≤ 140737488351232) (hw : Kd.C (Kd.slice 21 (Kd.int .i32)) w A ws.length ws) (hwc : ws.length ≤ c) (h32 : ∀ l ∈ ws, ∀ r ∈ l, Tr.In32 r)
    (hg : Kd.C Kd.bool w Ag gs.length gs) (hgc : gs.length ≤ cg) (_hT : True) :
    Calls Try.prog 7 #[.string s, .slice A ws.length c, .slice Ag gs.length cg] w fun e w' => e = .returned (.bool true) ∧ Below w.heap.size w w' := by
  have HM := Aside0.mk (Kd.C_max hw)
  have HGM := Aside0.mk (Kd.C_max hg)
  have HW := Aside0.mk hw
  have HWc := Aside0.mk hwc
  have H32 := Aside0.mk h32
  have HG := Aside0.mk hg
  have HGc := Aside0.mk hgc
  clear hw hwc h32 hg hgc _hT
  by_cases h2000 : 2000 < s.size
  · have h2000' : 2000 < (s.size : Int) := by omega
    clear h2000
    go_enter Try.func7, Try.ntmps7
    go_wp2_with (go_at_call 24; refine (awake09_calls _).mono ?_; rintro e wa ⟨rfl, hb⟩; have HB := Aside0.mk hb; clear hb)
    go_ret
    exact ⟨rfl, HB.out⟩
  by_cases h20 : 20 < ws.length
  · have h20' : 20 < (ws.length : Int) := by omega
    have h2000' : ¬ 2000 < (s.size : Int) := by omega
    clear h2000 h20
    go_enter Try.func7, Try.ntmps7
    go_wp2_with (go_at_call 24; refine (awake09_calls _).mono ?_; rintro e wa ⟨rfl, hb⟩; have HB := Aside0.mk hb; clear hb)
    go_ret
    exact ⟨rfl, HB.out⟩
  have h20' : ¬ 20 < (ws.length : Int) := by omega
  have h2000' : ¬ 2000 < (s.size : Int) := by omega
  have b1 : (1 : Int) ≤ 1 ∧ (1 : Int) ≤ 24 := by decide
  by_cases hc : codeOf s = 0
  case neg =>
    obtain ⟨code, hcode⟩ : ∃ code, code = codeOf s := ⟨_, rfl⟩
    have HCO := Aside0.mk hc
    have hne : code ≠ 0 := by rw [hcode]; exact hc
    have hne2 : (code != 0) = true := by simpa using hne
    have HCD := Aside0.mk hcode.symm
    clear hcode hc
    go_enter Try.func7, Try.ntmps7
    go_wp2_with (first
      | (go_at_call 24; refine (awake09_calls _).mono ?_; rintro e wa ⟨rfl, hb⟩; have HB := Aside0.mk hb; clear hb)
      | ((with_reducible refine gate_dst (N := 30) rfl ?_); (refine Kd.R_lit k63 (w0 := wa) wa.heap.size 63 ?hg (N := 30) ?hd (xs := ([(⟨65, 90, 97⟩ : S63), ⟨97, 122, 97⟩] : List S63)) (inner := [.int .i32 65, .int .i32 90, .int .i64 97, .int .i32 97, .int .i32 122, .int .i64 97]) (ok := fun _ => True) (okp := fun _ => True) ?hr ?hp (fun _ hk => hk) trivial (Below.refl _ _) (Nat.le_refl _) (by simp) ?_; (case hd => rfl); (case hg => rfl); (case hr => first | (go_simp; done) | (go_simp; rfl)); (case hp => exact Reps.c3 (show Kd.M k63 _ _ _ (⟨65, 90, 97⟩ : S63) [.int .i32 65, .int .i32 90, .int .i64 97] from k63_mkM _ _ _ (⟨65, 90, 97⟩ : S63)) (Reps.c3 (show Kd.M k63 _ _ _ (⟨97, 122, 97⟩ : S63) [.int .i32 97, .int .i32 122, .int .i64 97] from k63_mkM _ _ _ (⟨97, 122, 97⟩ : S63)) (Reps.none _ _))); intro v5 w5 ho hb hg hat; clear hg hat; obtain ⟨Al, cl, hv_, hl_, hc_⟩ := Kd.R_reads ho; subst hv_; have HLl := Aside0.mk (show aL.length ≤ cl from hl_); have HLc := Aside0.mk (show Kd.C k63 _ Al aL.length aL from hc_); replace HB := Aside0.mk (below_step HB.out hb); clear ho hb hl_ hc_))
      | (go_at_call 26; refine (newB s Al cl aL 1 1 _ HLc.out HLl.out aL_chk b1 b1 HCO.out).mono ?_; rintro e wb ⟨rfl, hb⟩; rw [HCD.out]; replace HB := Aside0.mk (below_step HB.out hb); clear hb)
      | ((with_reducible refine gate_dst (N := 8) rfl ?_); refine box_event ?hg (N := 8) ?hd (cs := #[.int .i64 0, .int .i64 0]) (t := 46) ?hr ?_; (case hd => rfl); (case hg => rfl); (case hr => first | (go_simp; done) | (go_simp; rfl)); intro g8 hg w9 hbox hb; have BK8 := Aside0.mk hbox; have GE8 := Aside0.mk (by rw [hg]; exact below_size HB.out : w.heap.size ≤ g8); have GH := Aside0.mk (Nat.le_of_eq hg.symm : wb.heap.size ≤ g8); have HBb := Aside0.mk hb; replace HB := Aside0.mk (below_step HB.out hb); have hcz0 : w9.cell? ⟨g8, 0, none⟩ = some (.int .i64 0) := (blk_cell BK8.out 0).trans rfl; have hcz1 : w9.cell? ⟨g8, 1, none⟩ = some (.int .i64 0) := (blk_cell BK8.out 1).trans rfl; have hcf0 := blk_frozen BK8.out 0; have hcf1 := blk_frozen BK8.out 1; clear hb hbox hg))
    go_ret
    exact ⟨rfl, below_set (below_set HB.out GE8.out) GE8.out⟩
  case pos =>
    have HCO := Aside0.mk hc
    clear hc
    go_enter Try.func7, Try.ntmps7
    go_upto_region 5 with (go_at_call 24; refine (awake09_calls _).mono ?_; rintro e wa ⟨rfl, hb⟩; have HB := Aside0.mk hb; clear hb)
    go_cut [7, 8] (fun v7 v8 wc => ∃ b La Lc bt base Wa Wc g8, v7 = .pointer (some ⟨b, 0, none⟩) ∧ v8 = .pointer (some ⟨g8, 0, none⟩) ∧ Aside0 (HyphAt wc b aL (Tr.make ((patsOf s).map Tr.pq)) (toldOf s) 1 1 La Lc bt base Wa Wc) ∧ Aside0 (wc.heap[g8]? = some (.cells #[.int .i64 0, .int .i64 0] 46 (0, 0))) ∧ Aside0 (Below w.heap.size w wc))
    case first =>
      go_wp2_with (first
        | ((with_reducible refine gate_dst (N := 30) rfl ?_); (refine Kd.R_lit k63 (w0 := wa) wa.heap.size 63 ?hg (N := 30) ?hd (xs := ([(⟨65, 90, 97⟩ : S63), ⟨97, 122, 97⟩] : List S63)) (inner := [.int .i32 65, .int .i32 90, .int .i64 97, .int .i32 97, .int .i32 122, .int .i64 97]) (ok := fun _ => True) (okp := fun _ => True) ?hr ?hp (fun _ hk => hk) trivial (Below.refl _ _) (Nat.le_refl _) (by simp) ?_; (case hd => rfl); (case hg => rfl); (case hr => first | (go_simp; done) | (go_simp; rfl)); (case hp => exact Reps.c3 (show Kd.M k63 _ _ _ (⟨65, 90, 97⟩ : S63) [.int .i32 65, .int .i32 90, .int .i64 97] from k63_mkM _ _ _ (⟨65, 90, 97⟩ : S63)) (Reps.c3 (show Kd.M k63 _ _ _ (⟨97, 122, 97⟩ : S63) [.int .i32 97, .int .i32 122, .int .i64 97] from k63_mkM _ _ _ (⟨97, 122, 97⟩ : S63)) (Reps.none _ _))); intro v5 w5 ho hb hg hat; clear hg hat; obtain ⟨Al, cl, hv_, hl_, hc_⟩ := Kd.R_reads ho; subst hv_; have HLl := Aside0.mk (show aL.length ≤ cl from hl_); have HLc := Aside0.mk (show Kd.C k63 _ Al aL.length aL from hc_); replace HB := Aside0.mk (below_step HB.out hb); clear ho hb hl_ hc_))
        | (go_at_call 26; refine (newC s Al cl aL 1 1 _ HLc.out HLl.out (by decide) aL_chk b1 b1 HCO.out).mono ?_; rintro e wb ⟨b, La, Lc, bt, base, Wa, Wc, rfl, hH, hb⟩; have HH := Aside0.mk hH; replace HB := Aside0.mk (below_step HB.out hb); clear hb hH)
        | ((with_reducible refine gate_dst (N := 8) rfl ?_); refine box_event ?hg (N := 8) ?hd (cs := #[.int .i64 0, .int .i64 0]) (t := 46) ?hr ?_; (case hd => rfl); (case hg => rfl); (case hr => first | (go_simp; done) | (go_simp; rfl)); intro g8 hg w9 hbox hb; have BK8 := Aside0.mk hbox; have GE8 := Aside0.mk (by rw [hg]; exact below_size HB.out : w.heap.size ≤ g8); have GH := Aside0.mk (Nat.le_of_eq hg.symm : wb.heap.size ≤ g8); have HBb := Aside0.mk hb; replace HB := Aside0.mk (below_step HB.out hb); have hcz0 : w9.cell? ⟨g8, 0, none⟩ = some (.int .i64 0) := (blk_cell BK8.out 0).trans rfl; have hcz1 : w9.cell? ⟨g8, 1, none⟩ = some (.int .i64 0) := (blk_cell BK8.out 1).trans rfl; have hcf0 := blk_frozen BK8.out 0; have hcf1 := blk_frozen BK8.out 1; clear hb hbox hg))
      go_meet
      case rel => exact ⟨b, La, Lc, bt, base, Wa, Wc, g8, rfl, rfl, ⟨HH.out.below (below_set (below_set HBb.out GH.out) GH.out)⟩, ⟨blk_put (cs := #[.int .i64 0, .int .i64 0]) (blk_put (cs := #[.int .i64 0, .int .i64 0]) BK8.out 0 _ rfl) 1 _ rfl⟩, ⟨below_set (below_set HB.out GE8.out) GE8.out⟩⟩
    case rest =>
      obtain ⟨b, La, Lc, bt, base, Wa, Wc, g8, rfl, rfl, HH, BK8, HB'⟩ := hcut
      clear HB
      rename World => w2
      replace HW := Aside0.mk (Kd.C_below HW.out HB'.out)
      replace HG := Aside0.mk (Kd.C_below HG.out HB'.out)
      have HBw := HB'
      clear HB'
      have HB2 := Aside0.mk (Below.refl w2.heap.size w2)
      have hcz0 : w2.cell? ⟨g8, 0, none⟩ = some (.int .i64 0) := (blk_cell BK8.out 0).trans rfl
      have hcz1 : w2.cell? ⟨g8, 1, none⟩ = some (.int .i64 0) := (blk_cell BK8.out 1).trans rfl
      go_wp2_with fail
      clear hcz0 hcz1 BK8
      obtain ⟨g0, hg0⟩ : ∃ g0 : Nat, g0 = ws.length + 1 := ⟨_, rfl⟩
      have HG0 := Aside0.mk hg0
      clear hg0
      go_loopg [9, 10, 41] g0 (fun g v9 v10 v41 w' => ∃ (i : Nat) (xs : List S66) (bs : List Bool) (A9 : Option Addr) (c9 : Nat) (A10 : Option Addr) (c10 : Nat), v41 = .int .i64 (i : Int) ∧ v9 = .slice A9 xs.length c9 ∧ v10 = .slice A10 bs.length c10 ∧ Aside0 (Kd.R k66 66 w' w2.heap.size (fun _ => True) (.slice A9 xs.length c9) xs) ∧ Aside0 (Kd.R Kd.bool 4 w' w2.heap.size (fun _ => True) (.slice A10 bs.length c10) bs) ∧ Aside0 (xs.map S66.f0 ++ rOf gs i (ws.drop i) = rOf gs 0 ws) ∧ Aside0 (bs ++ wOf (patsOf s) (toldOf s) (ws.drop i) = wOf (patsOf s) (toldOf s) ws) ∧ Aside0 (i ≤ ws.length) ∧ Aside0 (xs.length ≤ 81 * i) ∧ Aside0 (bs.length ≤ 81 * i) ∧ Aside0 (g + i = ws.length + 1) ∧ Aside0 (Below w2.heap.size w2 w'))
      case atStart => exact ⟨0, [], [], none, 0, none, 0, rfl, rfl, rfl, ⟨Kd.R_nil _ _ _ _ _⟩, ⟨Kd.R_nil _ _ _ _ _⟩, ⟨rfl⟩, ⟨rfl⟩, ⟨Nat.zero_le _⟩, ⟨Nat.zero_le _⟩, ⟨Nat.zero_le _⟩, ⟨by have := HG0.out; omega⟩, HB2⟩
      case round =>
        obtain ⟨i, xs, bs, A9, c9, A10, c10, rfl, rfl, rfl, H9, H10, HX, HBS, HI, HXL, HBL, HGr, HBr⟩ := hrel
        clear HG0
        have hi20 := HI.out
        have hxl := HXL.out
        have hbl := HBL.out
        by_cases hi : (i : Int) < (ws.length : Int)
        case neg =>
          have hx : xs.map S66.f0 = rOf gs 0 ws := by rw [← HX.out, List.drop_eq_nil_of_le (by omega)]; simp [rOf]
          have HAW := Aside0.mk (apart_words gs ws 0 xs hx)
          have hbe : bs = wOf (patsOf s) (toldOf s) ws := by rw [← HBS.out, List.drop_eq_nil_of_le (by omega)]; simp [wOf]
          obtain ⟨bs2, hb2⟩ : ∃ bs2, bs2 = bs ++ [false] := ⟨_, rfl⟩
          have HBE := Aside0.mk hb2.symm
          have HPE : Aside0 (pointsOf aL (patsOf s) (toldOf s) 1 1 xs.length xs = bs2) := ⟨by rw [hb2, hbe]; exact apart_pts gs _ _ ws 0 xs.length xs hx (Nat.le_refl _)⟩
          have HSF : Aside0 (stanzaref07_SameBools.f 100002 bs2 bs2 = some true) := ⟨same_f _ (by rw [hb2, List.length_append, List.length_singleton]; omega)⟩
          clear hx hbe hb2
          go_wp2_with (first
            | ((with_reducible refine gate_builtin (b := .append) (xs := #[.tmp 95, .tmp 96]) rfl ?_); at_builtin; (refine Kd.R_append Kd.bool (w0 := w2) w2.heap.size rfl (.tmp 95) (.tmp 96) 58 4 (.bool false) 1 rfl Try.underlying58 info4 rfl (by decide) (by omega) (.slice A10 bs.length c10) bs (false) [.bool (false)] (fun _ => True) (fun _ => False) rfl rfl rfl (fun _ hk => hk.elim) (fun _ _ => trivial) H10.out HBr.out (below_size HBr.out) (by omega) ?_; intro v1 w3 ho1 hb1 hg1 hat1; clear hat1; rw [HBE.out] at ho1; obtain ⟨A10', c10', hv1⟩ := Kd.R_slice ho1; rw [hv1] at ho1 ⊢; have H10' := Aside0.mk ho1; have H9' := Aside0.mk (grown_other H9.out rfl H10.out hg1 (by decide)); have HB' := Aside0.mk hb1; clear ho1 hb1 hg1 hv1))
            | (go_at_call 30; refine (points_calls b aL (patsOf s) (toldOf s) 1 1 La Lc bt base Wa Wc A9 c9 xs _ (HH.out.below HB'.out) (Kd.R_reads' H9'.out).2.2 (Kd.R_reads' H9'.out).2.1 (Dec.parseOf_fit s) aL_ok b1 b1 (Dec.parseOf_told s) (by omega) HAW.out).mono ?_; rintro e w4 ⟨v, rfl, hr, hb⟩; rw [HPE.out] at hr; obtain ⟨A11, c11, rfl⟩ := Kd.R_slice hr; have H11 := Aside0.mk hr; replace H10' := Aside0.mk (Kd.R_below H10'.out hb); replace HB' := Aside0.mk (below_step HB'.out hb); clear hb hr)
            | (go_at_call 29; refine (stanzaref07_SameBools.calls 100002 A11 c11 bs2 A10' c10' bs2 true _ (Kd.R_reads' H11.out).2.2 (Kd.R_reads' H11.out).2.1 (Kd.R_reads' H10'.out).2.2 (Kd.R_reads' H10'.out).2.1 HSF.out).mono ?_; rintro e w5 ⟨rfl, nd, hw5⟩; replace HB' : Aside0 (Below w2.heap.size w2 w5) := ⟨by rw [hw5]; exact pw_below_drewN HB'.out _⟩; clear hw5))
          go_ret
          exact ⟨rfl, below_step HBw.out HB'.out⟩
        case pos =>
          have hil : i < ws.length := by omega
          obtain ⟨wd, hwd⟩ : ∃ wd, wd = ws.getD i [] := ⟨_, rfl⟩
          obtain ⟨ad, A1, c1, e1, q, hle, hC⟩ := at_rows (Kd.C_below HW.out HBr.out) i hil
          subst e1
          rw [← hwd] at q hle hC
          have HE := Aside0.mk hC
          have HEc := Aside0.mk hle
          have HDR : Aside0 (ws.drop i = wd :: ws.drop (i + 1)) := ⟨by rw [hwd]; exact getD_drop hil⟩
          obtain ⟨D, hD⟩ : ∃ D, D = fewL true wd := ⟨_, rfl⟩
          have HDE := Aside0.mk hD.symm
          have hD80 : D.length ≤ 80 := by rw [hD]; exact fewL_len true wd
          have HWD : Aside0 (Tr.Word D) := ⟨by rw [hD]; exact fewL_word true wd (fun r hr => H32.out wd (by rw [hwd, List.getD_eq_getElem?_getD, List.getElem?_eq_getElem hil]; exact List.getElem_mem hil) r hr)⟩
          have HSM : Aside0 (∀ r ∈ D, 97 ≤ r ∧ r ≤ 100) := ⟨by rw [hD]; exact fewL_small wd⟩
          obtain ⟨V, hV⟩ : ∃ V, V = Hy.pts (wordVals (patsOf s) (toldOf s) D) D.length 1 1 := ⟨_, rfl⟩
          have HVE := Aside0.mk hV.symm
          have HVL : Aside0 (V.length = D.length + 1) := ⟨by rw [hV]; exact pts_length _ _ _ _⟩
          have HVP : Aside0 (0 < V.length) := ⟨by rw [HVL.out]; omega⟩
          have HVO : Aside0 (V.take D.length = oneOf (patsOf s) (toldOf s) D) := ⟨by rw [hV]; rfl⟩
          obtain ⟨gr, hgr⟩ : ∃ gr, gr = gs.getD i false := ⟨_, rfl⟩
          have HGE := Aside0.mk hgr
          have p0 : (0 : Int) ≤ (i : Int) := by omega
          clear hC hle hwd hD hV hgr
          go_upto_block 2 with (first
            | (go_at_call 32; refine (stanzalaw09_few.calls 100 A1 c1 wd true (fewL true wd) _ HE.out HEc.out (few_eq true wd)).mono ?_; rintro e wf ⟨v, rfl, hr, hb⟩; rw [HDE.out] at hr; obtain ⟨AD, cD, rfl⟩ := Kd.R_slice hr; have HD := Aside0.mk (Kd.R_lower hr (below_size HBr.out)); replace H9 := Aside0.mk (Kd.R_below H9.out hb); replace H10 := Aside0.mk (Kd.R_below H10.out hb); replace HBr := Aside0.mk (below_step HBr.out hb); clear hb hr)
            | (go_at_call 33; refine (word_calls b aL (patsOf s) (toldOf s) 1 1 La Lc bt base Wa Wc AD cD D _ (HH.out.below HBr.out) (Kd.R_reads' HD.out).2.2 (Kd.R_reads' HD.out).2.1 (Dec.parseOf_fit s) HWD.out b1 b1 (Dec.parseOf_told s)).mono ?_; rintro e wk ⟨v, rfl, hr, hb⟩; rw [HVE.out] at hr; obtain ⟨gp, cp, rfl, hge, hlt, _, _⟩ := Kd.R_form hr HVP.out; have HP := Aside0.mk (Kd.R_lower (Kd.R_reok (ok := fun k => k = gp) rfl hr (fun k hk => by cases hk; rfl)) (below_size HBr.out)); replace H9 := Aside0.mk (Kd.R_below H9.out hb); replace H10 := Aside0.mk (Kd.R_below (Kd.R_reok (ok := fun k => k ≠ gp) rfl H10.out (fun k hk => by have := Kd.R_lt H10.out k hk; omega)) hb); replace HD := Aside0.mk (Kd.R_below HD.out hb); replace HBr := Aside0.mk (below_step HBr.out hb); clear hb hr hge hlt))
          go_cut [9, 10] (fun v9 v10 wc => ∃ (xs1 : List S66) (bs1 : List Bool) (A9 : Option Addr) (c9 : Nat) (A10 : Option Addr) (c10 : Nat), v9 = .slice A9 xs1.length c9 ∧ v10 = .slice A10 bs1.length c10 ∧ Aside0 (Kd.R k66 66 wc w2.heap.size (fun _ => True) (.slice A9 xs1.length c9) xs1) ∧ Aside0 (Kd.R Kd.bool 4 wc w2.heap.size (fun _ => True) (.slice A10 bs1.length c10) bs1) ∧ Aside0 (xs1.map S66.f0 = xs.map S66.f0 ++ D.map (lift gr)) ∧ Aside0 (bs1 = bs ++ V.take D.length) ∧ Aside0 (xs1.length = xs.length + D.length) ∧ Aside0 (bs1.length = bs.length + D.length) ∧ Aside0 (Below w2.heap.size w2 wc))
          case first =>
            obtain ⟨g1, hg1⟩ : ∃ g1 : Nat, g1 = D.length + 1 := ⟨_, rfl⟩
            have HG1 := Aside0.mk hg1
            clear hg1
            go_wp2_with fail
            go_loopg [9, 10, 53] g1 (fun g v9 v10 v53 w' => ∃ (k : Nat) (xs1 : List S66) (bs1 : List Bool) (A9 : Option Addr) (c9 : Nat) (A10 : Option Addr) (c10 : Nat), v53 = .int .i64 (k : Int) ∧ v9 = .slice A9 xs1.length c9 ∧ v10 = .slice A10 bs1.length c10 ∧ Aside0 (Kd.R k66 66 w' w2.heap.size (fun _ => True) (.slice A9 xs1.length c9) xs1) ∧ Aside0 (Kd.R Kd.bool 4 w' w2.heap.size (fun k => k ≠ gp) (.slice A10 bs1.length c10) bs1) ∧ Aside0 (Kd.R Kd.bool 4 w' w2.heap.size (fun k => k = gp) (.slice (some ⟨gp, 0, none⟩) V.length cp) V) ∧ Aside0 (Kd.R (Kd.int .i32) 21 w' w2.heap.size (fun _ => True) (.slice AD D.length cD) D) ∧ Aside0 (xs1.map S66.f0 = xs.map S66.f0 ++ (D.take k).map (lift gr)) ∧ Aside0 (bs1 = bs ++ V.take k) ∧ Aside0 (xs1.length = xs.length + k) ∧ Aside0 (bs1.length = bs.length + k) ∧ Aside0 (k ≤ D.length) ∧ Aside0 (g + k = D.length + 1) ∧ Aside0 (Below w2.heap.size w2 w'))
            case atStart => exact ⟨0, xs, bs, A9, c9, A10, c10, rfl, rfl, rfl, H9, H10, HP, HD, ⟨by simp⟩, ⟨by simp⟩, ⟨rfl⟩, ⟨rfl⟩, ⟨Nat.zero_le _⟩, ⟨by have := HG1.out; omega⟩, HBr⟩
            case round =>
              clear H9 H10 HP HD HBr HG1
              obtain ⟨k, xs1, bs1, A9, c9, A10, c10, rfl, rfl, rfl, H9, H10, HP, HD, HX1, HB1, HL1, HL2, HKD, HGk, HBr⟩ := hrel
              rename World => wr
              have hkd := HKD.out
              by_cases hk : (k : Int) < (D.length : Int)
              case neg =>
                clear q
                go_wp2_with fail
                go_meet
                have hke : k = D.length := by omega
                have hl1 := HL1.out
                have hl2 := HL2.out
                case rel => exact ⟨xs1, bs1, A9, c9, A10, c10, rfl, rfl, H9, ⟨Kd.R_mono H10.out (fun _ _ => trivial)⟩, ⟨by rw [HX1.out, hke, List.take_length]⟩, ⟨by rw [HB1.out, hke]⟩, ⟨by omega⟩, ⟨by omega⟩, HBr⟩
              case pos =>
                have hkl : k < D.length := by omega
                obtain ⟨r, hr⟩ : ∃ r, r = rd D (k : Int) := ⟨_, rfl⟩
                obtain ⟨add, ed, qd⟩ := Kd.at_int (Kd.R_reads' HD.out).2.2 (k : Int) (by omega) (by omega)
                subst ed
                rw [← hr, Int.toNat_natCast] at qd
                have hrs : 97 ≤ r ∧ r ≤ 100 := HSM.out r (by rw [hr, rd, Int.toNat_natCast, List.getD_eq_getElem?_getD, List.getElem?_eq_getElem hkl]; exact List.getElem_mem hkl)
                have HR := Aside0.mk hr
                have pk : (0 : Int) ≤ (k : Int) := by omega
                have hkv : (k : Int) < (V.length : Int) := by have := HVL.out; omega
                obtain ⟨r', hr'⟩ : ∃ r', r' = lift gr r := ⟨_, rfl⟩
                have HR' := Aside0.mk hr'
                clear hr hr' q
                go_upto_region 18 with fail
                clear qd
                go_cut [67] (fun v67 wc => v67 = .bool gr ∧ wc = wr)
                case first =>
                  by_cases hgl : (i : Int) < (gs.length : Int)
                  · obtain ⟨adg, eg, qg⟩ := Kd.at_bool (Kd.C_below HG.out HBr.out) (i : Int) (by omega) (by omega)
                    subst eg
                    have hgv : rdOf false gs (i : Int) = gr := by rw [HGE.out, rdOf, Int.toNat_natCast]
                    rw [hgv, Int.toNat_natCast] at qg
                    clear hgv
                    go_wp2_with fail
                    go_meet
                    case rel => exact ⟨rfl, rfl⟩
                  · have hgf : gr = false := by rw [HGE.out, List.getD_eq_getElem?_getD, List.getElem?_eq_none (by omega)]; rfl
                    have HGF := Aside0.mk hgf
                    clear hgf
                    go_wp2_with fail
                    go_meet
                    case rel => exact ⟨by rw [HGF.out], rfl⟩
                case rest =>
                  obtain ⟨rfl, rfl⟩ := hcut
                  rename World => wy
                  go_upto_if 67 with fail
                  go_cut [15] (fun v15 wc => v15 = .int .i32 r' ∧ wc = wy)
                  case first =>
                    have hw32 : wrap32 (r - 32) = r - 32 := by unfold wrap32; omega
                    have HW32 := Aside0.mk hw32
                    clear hw32
                    have hgb : gr = true ∨ gr = false := by cases gr <;> simp
                    rcases hgb with rfl | rfl
                    · go_wp2_with fail
                      go_meet
                      case rel => exact ⟨by rw [HR'.out]; first | rfl | (rw [HW32.out]; rfl), rfl⟩
                    · go_wp2_with fail
                      go_meet
                      case rel => exact ⟨by rw [HR'.out]; rfl, rfl⟩
                  case rest =>
                  obtain ⟨rfl, rfl⟩ := hcut
                  rename World => wz
                  go_wp2_with (first
                    | ((with_reducible refine gate_builtin (b := .append) (xs := #[.tmp 70, .tmp 75]) rfl ?_); at_builtin; (refine Kd.R_append k66 (w0 := w2) w2.heap.size rfl (.tmp 70) (.tmp 75) 55 66 (.agg #[.int .i32 0, .int .i64 0, .int .i64 0]) 24 rfl Try.underlying55 info66 rfl (by decide) (by omega) (.slice A9 xs1.length c9) xs1 (⟨r', (xs1.length : Int), 1⟩ : S66) [.int .i32 r', .int .i64 (xs1.length : Int), .int .i64 1] (fun _ => True) (fun _ => False) rfl (by first | (go_simp; done) | (go_simp; rfl)) (k66_mkM _ _ _ (⟨r', (xs1.length : Int), 1⟩ : S66)) (fun _ hk => hk.elim) (fun _ _ => trivial) H9.out HBr.out (below_size HBr.out) (by have := HL1.out; omega) ?_; intro v1 w1 ho1 hb1 hg1 hat1; clear hat1; obtain ⟨A9', c9', hv1⟩ := Kd.R_slice ho1; rw [hv1] at ho1 ⊢; have H9' := Aside0.mk ho1; have H10' := Aside0.mk (grown_other H10.out rfl H9.out hg1 (by decide)); have HP' := Aside0.mk (grown_other HP.out rfl H9.out hg1 (by decide)); have HD' := Aside0.mk (grown_other HD.out rfl H9.out hg1 (by decide)); have HB' := Aside0.mk hb1; obtain ⟨qv, qvf⟩ := Kd.R_celln false HP'.out (k : Int) pk hkv; rw [Int.toNat_natCast] at qv; clear qvf; have HFR : Aside0 (∀ k_, w1.heap.size ≤ k_ → k_ ≠ gp) := ⟨fun k_ hk_ e_ => by have := Kd.R_lt HP'.out gp rfl; omega⟩; clear ho1 hb1 hg1 hv1))
                    | ((with_reducible refine gate_builtin (b := .append) (xs := #[.tmp 77, .tmp 82]) rfl ?_); at_builtin; (refine Kd.R_append Kd.bool (w0 := w2) w2.heap.size rfl (.tmp 77) (.tmp 82) 58 4 (.bool false) 1 rfl Try.underlying58 info4 rfl (by decide) (by omega) (.slice A10 bs1.length c10) bs1 (rdOf false V (k : Int)) [.bool (rdOf false V (k : Int))] (fun k => k ≠ gp) (fun _ => False) rfl rfl rfl (fun _ hk => hk.elim) HFR.out H10'.out HB'.out (below_size HB'.out) (by have := HL2.out; omega) ?_; intro v1 w3 ho1 hb1 hg1 hat1; clear hat1; obtain ⟨A10', c10', hv1⟩ := Kd.R_slice ho1; rw [hv1] at ho1 ⊢; have H10'' := Aside0.mk ho1; have H9'' := Aside0.mk (grown_other H9'.out rfl H10'.out hg1 (by decide)); have HD'' := Aside0.mk (grown_other HD'.out rfl H10'.out hg1 (by decide)); have HP'' := Aside0.mk (Kd.R_grown HP'.out hg1 (fun k_ hk_ e_ => H10'.out.1 k_ e_.symm hk_)); have HB'' := Aside0.mk hb1; clear ho1 hb1 hg1 hv1)))
                  go_roundg (gk - 1)
                  case measure => have := HGk.out; omega
                  case rel => exact ⟨k + 1, _, _, A9', c9', A10', c10', by go_num, by rw [List.length_append]; rfl, by rw [List.length_append]; rfl, H9'', H10'', HP'', HD'', ⟨by rw [List.map_append, HX1.out, take_rd D k hkl, List.map_append, ← HR.out, List.append_assoc]; rw [HR'.out]; rfl⟩, ⟨by rw [HB1.out, take_rdOf V k (by have := HVL.out; omega), List.append_assoc]⟩, ⟨by have := HL1.out; rw [List.length_append, List.length_singleton]; omega⟩, ⟨by have := HL2.out; rw [List.length_append, List.length_singleton]; omega⟩, ⟨by omega⟩, ⟨by have := HGk.out; omega⟩, HB''⟩
          case rest =>
            clear H9 H10 HP HD HBr
            obtain ⟨xs1, bs1, A9, c9, A10, c10, rfl, rfl, H9, H10, HX1, HB1, HL1, HL2, HBr⟩ := hcut
            rename World => wz
            clear q
            go_wp2_with (first
              | ((with_reducible refine gate_builtin (b := .append) (xs := #[.tmp 85, .tmp 89]) rfl ?_); at_builtin; (refine Kd.R_append k66 (w0 := w2) w2.heap.size rfl (.tmp 85) (.tmp 89) 55 66 (.agg #[.int .i32 0, .int .i64 0, .int .i64 0]) 24 rfl Try.underlying55 info66 rfl (by decide) (by omega) (.slice A9 xs1.length c9) xs1 (⟨32, (xs1.length : Int), 1⟩ : S66) [.int .i32 32, .int .i64 (xs1.length : Int), .int .i64 1] (fun _ => True) (fun _ => False) rfl (by first | (go_simp; done) | (go_simp; rfl)) (k66_mkM _ _ _ (⟨32, (xs1.length : Int), 1⟩ : S66)) (fun _ hk => hk.elim) (fun _ _ => trivial) H9.out HBr.out (below_size HBr.out) (by have := HL1.out; omega) ?_; intro v1 w1 ho1 hb1 hg1 hat1; clear hat1; obtain ⟨A9', c9', hv1⟩ := Kd.R_slice ho1; rw [hv1] at ho1 ⊢; have H9' := Aside0.mk ho1; have H10' := Aside0.mk (grown_other H10.out rfl H9.out hg1 (by decide)); have HB' := Aside0.mk hb1; clear ho1 hb1 hg1 hv1))
              | ((with_reducible refine gate_builtin (b := .append) (xs := #[.tmp 91, .tmp 92]) rfl ?_); at_builtin; (refine Kd.R_append Kd.bool (w0 := w2) w2.heap.size rfl (.tmp 91) (.tmp 92) 58 4 (.bool false) 1 rfl Try.underlying58 info4 rfl (by decide) (by omega) (.slice A10 bs1.length c10) bs1 (false) [.bool (false)] (fun _ => True) (fun _ => False) rfl rfl rfl (fun _ hk => hk.elim) (fun _ _ => trivial) H10'.out HB'.out (below_size HB'.out) (by have := HL2.out; omega) ?_; intro v1 w3 ho1 hb1 hg1 hat1; clear hat1; obtain ⟨A10', c10', hv1⟩ := Kd.R_slice ho1; rw [hv1] at ho1 ⊢; have H10'' := Aside0.mk ho1; have H9'' := Aside0.mk (grown_other H9'.out rfl H10'.out hg1 (by decide)); have HB'' := Aside0.mk hb1; clear ho1 hb1 hg1 hv1)))
            go_roundg (gk - 1)
            case measure => have := HGr.out; omega
            case rel => exact ⟨i + 1, _, _, A9', c9', A10', c10', by go_num, by rw [List.length_append]; rfl, by rw [List.length_append]; rfl, H9'', H10'', ⟨by rw [List.map_append, HX1.out, ← HX.out, HDR.out, rOf, HDE.out, ← HGE.out]; simp⟩, ⟨by rw [HB1.out, ← HBS.out, HDR.out, wOf, HDE.out, HVO.out]; simp⟩, ⟨by omega⟩, ⟨by have := HL1.out; rw [List.length_append, List.length_singleton]; omega⟩, ⟨by have := HL2.out; rw [List.length_append, List.length_singleton]; omega⟩, ⟨by have := HGr.out; omega⟩, HB''⟩
end Go.Proofs.Ytoefjhdcipgacaa.Hy
end
